/- Fields, structs, functions, crates compared: package tree. -/
import Derived.Test.YtjbcagbnagefcaaTree4
namespace Go.Proofs.Ytjbcagbnagefcaa
open Go.RowKit

attribute [local go_sem ↓] exec_mid_ty exec_store_ty exec_mid_pl exec_store_pl exec_mid_opr exec_store_opr exec_mid_val exec_store_val exec_mid_st exec_store_st exec_mid_fld exec_store_fld exec_mid_str exec_store_str exec_mid_lif exec_store_lif exec_mid_fun exec_store_fun exec_mid_cr exec_store_cr
attribute [local go_sem] rowOk_new World.setRow_alloc_new
theorem ent_sameField : Entered 57 := entered_of Try.func57 (by kernel_rfl) (by kernel_rfl)
set_option maxRecDepth 100000 in
set_option maxHeartbeats 4000000 in
theorem sameField_any {S S' : Nat → Prop} (a b : FldD) (w : World) (cs ds : List Value) (ha : FldIs S w a cs) (hb : FldIs S' w b ds) : Calls Try.prog 57 #[.agg cs.toArray, .agg ds.toArray] w (Tells w (a = b)) := by
  obtain ⟨a_mu, a_name, a_ty⟩ := a
  obtain ⟨b_mu, b_name, b_ty⟩ := b
  have ag1 := agg_ok ha.len ha.one
  have ag2 := agg_ok hb.len hb.one
  obtain ⟨s2, hcs, ah_name, ah_ty⟩ := ha
  have HCA := shut hcs
  clear hcs
  obtain ⟨t2, hcs, bh_name, bh_ty⟩ := hb
  have HCB := shut hcs
  clear hcs
  simp only at HCA HCB ah_name bh_name ah_ty bh_ty
  have HE : Shut ((FldD.mk a_mu a_name a_ty) = (FldD.mk b_mu b_name b_ty) ↔ a_mu = b_mu ∧ a_name = b_name ∧ a_ty = b_ty) := shut (by rw [FldD.mk.injEq])
  obtain ⟨XA, hXA⟩ : ∃ X, X = FldD.mk a_mu a_name a_ty := ⟨_, rfl⟩
  obtain ⟨XB, hXB⟩ : ∃ X, X = FldD.mk b_mu b_name b_ty := ⟨_, rfl⟩
  rw [← hXA, ← hXB] at HE ⊢
  clear hXA hXB
  obtain ⟨CA, hCA⟩ : ∃ C, C = cs.toArray := ⟨_, rfl⟩
  obtain ⟨CB, hCB⟩ : ∃ C, C = ds.toArray := ⟨_, rfl⟩
  rw [← hCA] at ag1 ⊢
  rw [← hCB] at ag2 ⊢
  rw [HCA.out] at hCA
  rw [HCB.out] at hCB
  have GCA := shut hCA
  have GCB := shut hCB
  clear hCA hCB HCA HCB
  have KW : Keeps Nothing w ((w.alloc (.cells CA 50)).alloc (.cells CB 50)) := ((Keeps.refl Nothing w).alloc _).alloc _
  have BA : Blk ((w.alloc (.cells CA 50)).alloc (.cells CB 50)) w.heap.size CA 50 := blk_alloc (blk_new w CA 50) _
  have BB : Blk ((w.alloc (.cells CA 50)).alloc (.cells CB 50)) (w.heap.size + 1) CB 50 := by have h := blk_new (w.alloc (.cells CA 50)) CB 50; rwa [World.size_alloc] at h
  have al_ty := ah_ty.len
  have bl_ty := bh_ty.len
  go_enter Try.func57, Try.ntmps57
  obtain ⟨ae0, ae1, ⟨ae2, af2⟩⟩ := FldB al_ty GCA.out BA
  obtain ⟨be0, be1, ⟨be2, bf2⟩⟩ := FldB bl_ty GCB.out BB
  have ac0 := blk_inv BA ae0
  have bc0 := blk_inv BB be0
  have ac1 := blk_inv BA ae1
  have bc1 := blk_inv BB be1
  by_cases e_mu : a_mu = b_mu
  rotate_left
  · have hno : Shut (¬ XA = XB) := shut (fun h => e_mu ((HE.out.1 h).1))
    clear HE GCA GCB BA BB
    unfold txV at *
    have hq : (a_mu == b_mu) = false := by rw [beq_eq_false_iff_ne]; exact e_mu
    go_wp2_with fail
    go_ret
    exact tells_f hno.out KW
  subst e_mu
  by_cases e_name : a_name = b_name
  rotate_left
  · have hno : Shut (¬ XA = XB) := shut (fun h => e_name ((HE.out.1 h).2.1))
    clear HE GCA GCB BA BB
    have hq : (a_name == b_name) = false := by rw [beq_eq_false_iff_ne]; exact e_name
    unfold txV at *
    go_wp2_with fail
    go_ret
    exact tells_f hno.out KW
  subst e_name
  have hq_name : (a_name == a_name) = true := beq_self_eq_true _
  have hc := sameType_any _ _ ((w.alloc (.cells CA 50)).alloc (.cells CB 50)) _ _ (ah_ty.keeps KW (fun _ _ h => h) (fun _ h => h)) (bh_ty.keeps KW (fun _ _ h => h) (fun _ h => h))
  generalize hsa : s2.toArray = sa at *
  generalize hsb : t2.toArray = sb at *
  clear hsa hsb
  unfold txV at *
  go_wp2_with fail
  refine hc.mono ?_
  rintro e w1 ⟨⟨z, rfl, hz⟩, k1⟩
  have KW := KW.trans k1 (fun _ h _ => h)
  have BA := k1.blk BA (fun h => h)
  have BB := k1.blk BB (fun h => h)
  clear hc k1 ae0 ac0 be0 bc0 ae1 ac1 be1 bc1 ae2 af2 be2 bf2 hq_name
  cases z
  · have hno : Shut (¬ XA = XB) := shut (fun h => by have h2 := hz.2 ((HE.out.1 h).2.2); cases h2)
    clear HE GCA GCB BA BB hz
    go_wp2_with fail
    go_ret
    exact tells_f hno.out KW
  have E_ty := shut (hz.1 rfl)
  clear hz
  go_wp2_with fail
  go_ret
  exact tells_t (HE.out.2 ⟨(by first | rfl | trivial), (by first | rfl | trivial), E_ty.out⟩) KW

set_option maxRecDepth 100000 in
set_option maxHeartbeats 4000000 in
theorem eqf_fld (f : FuncId) (hcf : Entered f) {S S' : Nat → Prop} {l m : List FldD} (hf : ∀ a ∈ l, ∀ b ∈ m, ∀ (W : World) (cs ds : List Value), FldIs S W a cs → FldIs S' W b ds → Calls Try.prog f #[.agg cs.toArray, .agg ds.toArray] W (Tells W (a = b)))
    (w : World) {ax ay : Option Addr} (cx cy : Nat) (hx : SlIs S w 6 (FldIs S w) ax l) (hy : SlIs S' w 6 (FldIs S' w) ay m) :
    Calls Try.prog 80 #[.slice ax l.length cx, .slice ay m.length cy, .func (.func f) #[] #[]] w (Tells w (l = m)) := by
  have hlx := hx.1
  have hly := hy.1
  unfold bigN at hlx hly
  have HX := shut hx
  have HY := shut hy
  have HF := shut hf
  clear hx hy hf
  by_cases hne : l.length = m.length
  · obtain ⟨n, hn⟩ : ∃ n, l.length = n := ⟨_, rfl⟩
    have hm : m.length = n := by omega
    rw [hn, hm]
    rw [hn] at hlx
    clear hne hly
    have HN := shut hn
    have HM := shut hm
    clear hn hm
    go_enter Try.func80, Try.ntmps80
    go_wp2_with fail
    go_loopw [7, 8, 9, 17] (fun s7 s8 s9 s17 wx => ∃ t : Nat, s17 = .int .i64 t ∧ t ≤ n ∧ Keeps Nothing w wx ∧ Shut (l.take t = m.take t)) (fun _ _ _ s17 _ => n - (intOf s17).toNat)
    case atStart => exact ⟨0, rfl, Nat.zero_le _, Keeps.refl _ _, shut (by simp)⟩
    case round =>
      obtain ⟨t, rfl, ht, K, HT⟩ := hrel
      by_cases hlt : t < n
      · obtain ⟨a, ha⟩ : ∃ a, l[t]? = some a := ⟨_, List.getElem?_eq_getElem (by rw [HN.out]; exact hlt)⟩
        obtain ⟨b, hb⟩ : ∃ b, m[t]? = some b := ⟨_, List.getElem?_eq_getElem (by rw [HM.out]; exact hlt)⟩
        have HA := shut ha
        have HB := shut hb
        obtain ⟨g1, o1, rfl, -, cs, l1, r1, i1⟩ := (HX.out.keeps K (fun _ _ h => h) (fun _ h => h) (fun _ _ _ h => h.keeps K (fun _ _ h => h) (fun _ h => h))).get ha
        obtain ⟨g2, o2, rfl, -, ds, l2, r2, i2⟩ := (HY.out.keeps K (fun _ _ h => h) (fun _ h => h) (fun _ _ _ h => h.keeps K (fun _ _ h => h) (fun _ h => h))).get hb
        have ag1 := agg_ok l1 i1.one
        have ag2 := agg_ok l2 i2.one
        have hcm := List.mem_of_getElem? ha
        have hdm := List.mem_of_getElem? hb
        clear ha hb
        have m0 : (0 : Int) ≤ t := by omega
        have m1 : (t : Int) < n := by omega
        have hk := midOk_range r1
        have ho := midOf_range r1
        rw [l1] at hk ho
        have hz : cs.toArray.size = 6 := by simpa using l1
        obtain ⟨C, hC⟩ : ∃ C, C = cs.toArray := ⟨_, rfl⟩
        rw [← hC] at ag1 ho hz
        have HC := shut hC
        clear hC
        go_upto_region 6 with fail
        have kb1 : Keeps Nothing wr (wr.alloc (.cells C 50)) := (Keeps.refl Nothing wr).alloc _
        have bx1 := blk_new wr C 50
        have r2' := rangeAt_keeps r2 kb1 (fun h => h)
        clear hk ho r2
        generalize hgx1 : wr.heap.size = gx1 at *
        clear hgx1
        have hk := midOk_range r2'
        have ho := midOf_range r2'
        rw [l2] at hk ho
        have hz2 : ds.toArray.size = 6 := by simpa using l2
        obtain ⟨D, hD⟩ : ∃ D, D = ds.toArray := ⟨_, rfl⟩
        rw [← hD] at ag2 ho hz2
        have HD := shut hD
        clear hD
        have KB := K.trans kb1 (fun _ h _ => h)
        have j1 := i1.keeps kb1 (fun _ _ h => h) (fun _ h => h)
        have j2 := i2.keeps kb1 (fun _ _ h => h) (fun _ h => h)
        clear i1 i2 kb1 K r1
        generalize wr.alloc (.cells C 50) = w1 at *
        go_upto_region 7 with fail
        have kb2 : Keeps Nothing w1 (w1.alloc (.cells D 50)) := (Keeps.refl Nothing w1).alloc _
        have bx2 := blk_new w1 D 50
        have bx1 := kb2.blk bx1 (fun h => h)
        have KC := KB.trans kb2 (fun _ h _ => h)
        have q1 := j1.keeps kb2 (fun _ _ h => h) (fun _ h => h)
        have q2 := j2.keeps kb2 (fun _ _ h => h) (fun _ h => h)
        clear hk ho r2' j1 j2 kb2 KB
        generalize hgx2 : w1.heap.size = gx2 at *
        clear hgx2
        generalize w1.alloc (.cells D 50) = w2 at *
        obtain ⟨y1, y2⟩ := tblk_mid bx1 hz
        obtain ⟨y3, y4⟩ := tblk_mid bx2 hz2
        have hcall := HF.out a hcm b hdm w2 cs ds q1 q2
        rw [← HC.out, ← HD.out] at hcall
        clear q1 q2 bx1 bx2
        have hcf2 := hcf #[.agg C, .agg D] w2
        go_wp2_with fail
        clear hcf2
        refine hcall.mono ?_
        rintro e w3 ⟨⟨z, rfl, hzz⟩, k3⟩
        have KD := KC.trans k3 (fun _ h _ => h)
        have HZ := shut hzz
        clear hcall y1 y2 y3 y4 KC k3 hzz
        cases z with
        | true =>
          have HAB := shut (HZ.out.1 rfl)
          clear HZ
          go_wp2_with fail
          go_roundw
          case rel => exact ⟨t + 1, by go_num, by omega, KD, shut (take_eq HA.out HB.out HT.out HAB.out)⟩
          case measure => simp [intOf]; omega
        | false =>
          have HAB : Shut (a ≠ b) := shut (fun h => by have h2 := HZ.out.2 h; cases h2)
          clear HZ
          go_wp2_with fail
          go_ret
          exact tells_f (ne_at HA.out HB.out HAB.out) KD
      · obtain rfl : t = n := by omega
        have m1 : ¬ (t : Int) < t := by omega
        go_wp2_with fail
        go_ret
        refine tells_t ?_ K
        have h := HT.out
        rwa [List.take_of_length_le (Nat.le_of_eq HN.out), List.take_of_length_le (Nat.le_of_eq HM.out)] at h
  · have hne' : ¬ (l.length : Int) = m.length := by omega
    have hl : l ≠ m := fun h => hne (by rw [h])
    go_enter Try.func80, Try.ntmps80
    go_wp2_with fail
    go_ret
    exact tells_f hl (Keeps.refl _ _)

set_option maxHeartbeats 1000000 in
theorem each_fld (f : FuncId) (hcf : Entered f) {S S' : Nat → Prop} {l m : List FldD} (hf : ∀ a ∈ l, ∀ b ∈ m, ∀ (W : World) (cs ds : List Value), FldIs S W a cs → FldIs S' W b ds → Calls Try.prog f #[.agg cs.toArray, .agg ds.toArray] W (Tells W (a = b)))
    (w : World) {ax ay : Option Addr} (cx cy : Nat) (hx : SlIs S w 6 (FldIs S w) ax l) (hy : SlIs S' w 6 (FldIs S' w) ay m) :
    Calls Try.prog 56 #[.slice ax l.length cx, .slice ay m.length cy, .func (.func f) #[] #[]] w (Tells w (l = m)) := by
  have h := eqf_fld f hcf hf w cx cy hx hy
  clear hf hcf hx hy
  go_enter Try.func56, Try.ntmps56
  go_wp2_with fail
  refine h.mono ?_
  rintro e w1 ⟨⟨z, rfl, hz⟩, k⟩
  have HZ := shut hz
  clear hz h
  go_wp2_with fail
  go_ret
  exact tells_z HZ.out k
theorem ent_sameStruct : Entered 31 := entered_of Try.func31 (by kernel_rfl) (by kernel_rfl)
set_option maxRecDepth 100000 in
set_option maxHeartbeats 4000000 in
theorem sameStruct_any {S S' : Nat → Prop} (a b : StrD) (w : World) (cs ds : List Value) (ha : StrIs S w a cs) (hb : StrIs S' w b ds) : Calls Try.prog 31 #[.agg cs.toArray, .agg ds.toArray] w (Tells w (a = b)) := by
  obtain ⟨a_pub, a_name, a_lives, a_fields, a_pos⟩ := a
  obtain ⟨b_pub, b_name, b_lives, b_fields, b_pos⟩ := b
  have ag1 := agg_ok ha.len ha.one
  have ag2 := agg_ok hb.len hb.one
  obtain ⟨p2, q2, p3, q3, hcs, ah_name, ah_lives, ah_fields⟩ := ha
  have HCA := shut hcs
  clear hcs
  obtain ⟨x2, y2, x3, y3, hcs, bh_name, bh_lives, bh_fields⟩ := hb
  have HCB := shut hcs
  clear hcs
  simp only at HCA HCB ah_name bh_name ah_lives bh_lives ah_fields bh_fields
  have HE : Shut ((StrD.mk a_pub a_name a_lives a_fields a_pos) = (StrD.mk b_pub b_name b_lives b_fields b_pos) ↔ a_pub = b_pub ∧ a_name = b_name ∧ a_lives = b_lives ∧ a_fields = b_fields ∧ a_pos = b_pos) := shut (by rw [StrD.mk.injEq])
  obtain ⟨XA, hXA⟩ : ∃ X, X = StrD.mk a_pub a_name a_lives a_fields a_pos := ⟨_, rfl⟩
  obtain ⟨XB, hXB⟩ : ∃ X, X = StrD.mk b_pub b_name b_lives b_fields b_pos := ⟨_, rfl⟩
  rw [← hXA, ← hXB] at HE ⊢
  clear hXA hXB
  obtain ⟨CA, hCA⟩ : ∃ C, C = cs.toArray := ⟨_, rfl⟩
  obtain ⟨CB, hCB⟩ : ∃ C, C = ds.toArray := ⟨_, rfl⟩
  rw [← hCA] at ag1 ⊢
  rw [← hCB] at ag2 ⊢
  rw [HCA.out] at hCA
  rw [HCB.out] at hCB
  have GCA := shut hCA
  have GCB := shut hCB
  clear hCA hCB HCA HCB
  have KW : Keeps Nothing w ((w.alloc (.cells CA 48)).alloc (.cells CB 48)) := ((Keeps.refl Nothing w).alloc _).alloc _
  have BA : Blk ((w.alloc (.cells CA 48)).alloc (.cells CB 48)) w.heap.size CA 48 := blk_alloc (blk_new w CA 48) _
  have BB : Blk ((w.alloc (.cells CA 48)).alloc (.cells CB 48)) (w.heap.size + 1) CB 48 := by have h := blk_new (w.alloc (.cells CA 48)) CB 48; rwa [World.size_alloc] at h
  go_enter Try.func31, Try.ntmps31
  obtain ⟨ae0, ae1, ae2, -, ae4⟩ := StrB  GCA.out BA
  obtain ⟨be0, be1, be2, -, be4⟩ := StrB  GCB.out BB
  have ac0 := blk_inv BA ae0
  have bc0 := blk_inv BB be0
  have ac1 := blk_inv BA ae1
  have bc1 := blk_inv BB be1
  have ac2 := blk_inv BA ae2
  have bc2 := blk_inv BB be2
  have ac4 := blk_inv BA ae4
  have bc4 := blk_inv BB be4
  by_cases e_pub : a_pub = b_pub
  rotate_left
  · have hno : Shut (¬ XA = XB) := shut (fun h => e_pub ((HE.out.1 h).1))
    clear HE GCA GCB BA BB
    unfold txV at *
    have hq : (a_pub == b_pub) = false := by rw [beq_eq_false_iff_ne]; exact e_pub
    go_wp2_with fail
    go_ret
    exact tells_f hno.out KW
  subst e_pub
  by_cases e_name : a_name = b_name
  rotate_left
  · have hno : Shut (¬ XA = XB) := shut (fun h => e_name ((HE.out.1 h).2.1))
    clear HE GCA GCB BA BB
    have hq : (a_name == b_name) = false := by rw [beq_eq_false_iff_ne]; exact e_name
    unfold txV at *
    go_wp2_with fail
    go_ret
    exact tells_f hno.out KW
  subst e_name
  have hq_name : (a_name == a_name) = true := beq_self_eq_true _
  by_cases e_pos : a_pos = b_pos
  rotate_left
  · have hno : Shut (¬ XA = XB) := shut (fun h => e_pos ((HE.out.1 h).2.2.2.2))
    clear HE GCA GCB BA BB
    unfold txV at *
    go_wp2_with fail
    go_ret
    exact tells_f hno.out KW
  subst e_pos
  have hc := equal_tx ((w.alloc (.cells CA 48)).alloc (.cells CB 48)) q2 y2 (ah_lives.keeps KW (fun _ _ h => h) (fun _ h => h) (fun _ _ _ h => h)) (bh_lives.keeps KW (fun _ _ h => h) (fun _ h => h) (fun _ _ _ h => h))
  unfold txV at *
  go_wp2_with fail
  refine hc.mono ?_
  rintro e w1 ⟨⟨z, rfl, hz⟩, k1⟩
  have KW := KW.trans k1 (fun _ h _ => h)
  have BA := k1.blk BA (fun h => h)
  have BB := k1.blk BB (fun h => h)
  clear hc k1 ae0 ac0 be0 bc0 ae1 ac1 be1 bc1 ae2 ac2 be2 bc2 ae4 ac4 be4 bc4 hq_name
  cases z
  · have hno : Shut (¬ XA = XB) := shut (fun h => by have h2 := hz.2 ((HE.out.1 h).2.2.1); cases h2)
    clear HE GCA GCB BA BB hz
    go_wp2_with fail
    go_ret
    exact tells_f hno.out KW
  have E_lives := shut (hz.1 rfl)
  clear hz
  obtain ⟨-, -, -, ae3, -⟩ := StrB  GCA.out BA
  obtain ⟨-, -, -, be3, -⟩ := StrB  GCB.out BB
  have hc := each_fld _ ent_sameField (fun a _ b _ W cs ds h1 h2 => sameField_any a b W cs ds h1 h2) w1 q3 y3 (ah_fields.keeps KW (fun _ _ h => h) (fun _ h => h) (fun _ _ _ h => h.keeps KW (fun _ _ h => h) (fun _ h => h))) (bh_fields.keeps KW (fun _ _ h => h) (fun _ h => h) (fun _ _ _ h => h.keeps KW (fun _ _ h => h) (fun _ h => h)))
  skip
  go_wp2_with fail
  refine hc.mono ?_
  rintro e w2 ⟨⟨z, rfl, hz⟩, k2⟩
  have KW := KW.trans k2 (fun _ h _ => h)
  have BA := k2.blk BA (fun h => h)
  have BB := k2.blk BB (fun h => h)
  clear hc k2 ae3 be3
  cases z
  · have hno : Shut (¬ XA = XB) := shut (fun h => by have h2 := hz.2 ((HE.out.1 h).2.2.2.1); cases h2)
    clear HE GCA GCB BA BB hz
    go_wp2_with fail
    go_ret
    exact tells_f hno.out KW
  have E_fields := shut (hz.1 rfl)
  clear hz
  go_wp2_with fail
  go_ret
  exact tells_t (HE.out.2 ⟨(by first | rfl | trivial), (by first | rfl | trivial), E_lives.out, E_fields.out, (by first | rfl | trivial)⟩) KW

set_option maxRecDepth 100000 in
set_option maxHeartbeats 4000000 in
theorem eqf_str (f : FuncId) (hcf : Entered f) {S S' : Nat → Prop} {l m : List StrD} (hf : ∀ a ∈ l, ∀ b ∈ m, ∀ (W : World) (cs ds : List Value), StrIs S W a cs → StrIs S' W b ds → Calls Try.prog f #[.agg cs.toArray, .agg ds.toArray] W (Tells W (a = b)))
    (w : World) {ax ay : Option Addr} (cx cy : Nat) (hx : SlIs S w 5 (StrIs S w) ax l) (hy : SlIs S' w 5 (StrIs S' w) ay m) :
    Calls Try.prog 55 #[.slice ax l.length cx, .slice ay m.length cy, .func (.func f) #[] #[]] w (Tells w (l = m)) := by
  have hlx := hx.1
  have hly := hy.1
  unfold bigN at hlx hly
  have HX := shut hx
  have HY := shut hy
  have HF := shut hf
  clear hx hy hf
  by_cases hne : l.length = m.length
  · obtain ⟨n, hn⟩ : ∃ n, l.length = n := ⟨_, rfl⟩
    have hm : m.length = n := by omega
    rw [hn, hm]
    rw [hn] at hlx
    clear hne hly
    have HN := shut hn
    have HM := shut hm
    clear hn hm
    go_enter Try.func55, Try.ntmps55
    go_wp2_with fail
    go_loopw [7, 8, 9, 17] (fun s7 s8 s9 s17 wx => ∃ t : Nat, s17 = .int .i64 t ∧ t ≤ n ∧ Keeps Nothing w wx ∧ Shut (l.take t = m.take t)) (fun _ _ _ s17 _ => n - (intOf s17).toNat)
    case atStart => exact ⟨0, rfl, Nat.zero_le _, Keeps.refl _ _, shut (by simp)⟩
    case round =>
      obtain ⟨t, rfl, ht, K, HT⟩ := hrel
      by_cases hlt : t < n
      · obtain ⟨a, ha⟩ : ∃ a, l[t]? = some a := ⟨_, List.getElem?_eq_getElem (by rw [HN.out]; exact hlt)⟩
        obtain ⟨b, hb⟩ : ∃ b, m[t]? = some b := ⟨_, List.getElem?_eq_getElem (by rw [HM.out]; exact hlt)⟩
        have HA := shut ha
        have HB := shut hb
        obtain ⟨g1, o1, rfl, -, cs, l1, r1, i1⟩ := (HX.out.keeps K (fun _ _ h => h) (fun _ h => h) (fun _ _ _ h => h.keeps K (fun _ _ h => h) (fun _ h => h))).get ha
        obtain ⟨g2, o2, rfl, -, ds, l2, r2, i2⟩ := (HY.out.keeps K (fun _ _ h => h) (fun _ h => h) (fun _ _ _ h => h.keeps K (fun _ _ h => h) (fun _ h => h))).get hb
        have ag1 := agg_ok l1 i1.one
        have ag2 := agg_ok l2 i2.one
        have hcm := List.mem_of_getElem? ha
        have hdm := List.mem_of_getElem? hb
        clear ha hb
        have m0 : (0 : Int) ≤ t := by omega
        have m1 : (t : Int) < n := by omega
        have hk := midOk_range r1
        have ho := midOf_range r1
        rw [l1] at hk ho
        have hz : cs.toArray.size = 5 := by simpa using l1
        obtain ⟨C, hC⟩ : ∃ C, C = cs.toArray := ⟨_, rfl⟩
        rw [← hC] at ag1 ho hz
        have HC := shut hC
        clear hC
        go_upto_region 6 with fail
        have kb1 : Keeps Nothing wr (wr.alloc (.cells C 48)) := (Keeps.refl Nothing wr).alloc _
        have bx1 := blk_new wr C 48
        have r2' := rangeAt_keeps r2 kb1 (fun h => h)
        clear hk ho r2
        generalize hgx1 : wr.heap.size = gx1 at *
        clear hgx1
        have hk := midOk_range r2'
        have ho := midOf_range r2'
        rw [l2] at hk ho
        have hz2 : ds.toArray.size = 5 := by simpa using l2
        obtain ⟨D, hD⟩ : ∃ D, D = ds.toArray := ⟨_, rfl⟩
        rw [← hD] at ag2 ho hz2
        have HD := shut hD
        clear hD
        have KB := K.trans kb1 (fun _ h _ => h)
        have j1 := i1.keeps kb1 (fun _ _ h => h) (fun _ h => h)
        have j2 := i2.keeps kb1 (fun _ _ h => h) (fun _ h => h)
        clear i1 i2 kb1 K r1
        generalize wr.alloc (.cells C 48) = w1 at *
        go_upto_region 7 with fail
        have kb2 : Keeps Nothing w1 (w1.alloc (.cells D 48)) := (Keeps.refl Nothing w1).alloc _
        have bx2 := blk_new w1 D 48
        have bx1 := kb2.blk bx1 (fun h => h)
        have KC := KB.trans kb2 (fun _ h _ => h)
        have q1 := j1.keeps kb2 (fun _ _ h => h) (fun _ h => h)
        have q2 := j2.keeps kb2 (fun _ _ h => h) (fun _ h => h)
        clear hk ho r2' j1 j2 kb2 KB
        generalize hgx2 : w1.heap.size = gx2 at *
        clear hgx2
        generalize w1.alloc (.cells D 48) = w2 at *
        obtain ⟨y1, y2⟩ := tblk_mid bx1 hz
        obtain ⟨y3, y4⟩ := tblk_mid bx2 hz2
        have hcall := HF.out a hcm b hdm w2 cs ds q1 q2
        rw [← HC.out, ← HD.out] at hcall
        clear q1 q2 bx1 bx2
        have hcf2 := hcf #[.agg C, .agg D] w2
        go_wp2_with fail
        clear hcf2
        refine hcall.mono ?_
        rintro e w3 ⟨⟨z, rfl, hzz⟩, k3⟩
        have KD := KC.trans k3 (fun _ h _ => h)
        have HZ := shut hzz
        clear hcall y1 y2 y3 y4 KC k3 hzz
        cases z with
        | true =>
          have HAB := shut (HZ.out.1 rfl)
          clear HZ
          go_wp2_with fail
          go_roundw
          case rel => exact ⟨t + 1, by go_num, by omega, KD, shut (take_eq HA.out HB.out HT.out HAB.out)⟩
          case measure => simp [intOf]; omega
        | false =>
          have HAB : Shut (a ≠ b) := shut (fun h => by have h2 := HZ.out.2 h; cases h2)
          clear HZ
          go_wp2_with fail
          go_ret
          exact tells_f (ne_at HA.out HB.out HAB.out) KD
      · obtain rfl : t = n := by omega
        have m1 : ¬ (t : Int) < t := by omega
        go_wp2_with fail
        go_ret
        refine tells_t ?_ K
        have h := HT.out
        rwa [List.take_of_length_le (Nat.le_of_eq HN.out), List.take_of_length_le (Nat.le_of_eq HM.out)] at h
  · have hne' : ¬ (l.length : Int) = m.length := by omega
    have hl : l ≠ m := fun h => hne (by rw [h])
    go_enter Try.func55, Try.ntmps55
    go_wp2_with fail
    go_ret
    exact tells_f hl (Keeps.refl _ _)

set_option maxHeartbeats 1000000 in
theorem each_str (f : FuncId) (hcf : Entered f) {S S' : Nat → Prop} {l m : List StrD} (hf : ∀ a ∈ l, ∀ b ∈ m, ∀ (W : World) (cs ds : List Value), StrIs S W a cs → StrIs S' W b ds → Calls Try.prog f #[.agg cs.toArray, .agg ds.toArray] W (Tells W (a = b)))
    (w : World) {ax ay : Option Addr} (cx cy : Nat) (hx : SlIs S w 5 (StrIs S w) ax l) (hy : SlIs S' w 5 (StrIs S' w) ay m) :
    Calls Try.prog 30 #[.slice ax l.length cx, .slice ay m.length cy, .func (.func f) #[] #[]] w (Tells w (l = m)) := by
  have h := eqf_str f hcf hf w cx cy hx hy
  clear hf hcf hx hy
  go_enter Try.func30, Try.ntmps30
  go_wp2_with fail
  refine h.mono ?_
  rintro e w1 ⟨⟨z, rfl, hz⟩, k⟩
  have HZ := shut hz
  clear hz h
  go_wp2_with fail
  go_ret
  exact tells_z HZ.out k
theorem ent_sameLife : Entered 60 := entered_of Try.func60 (by kernel_rfl) (by kernel_rfl)
set_option maxRecDepth 100000 in
set_option maxHeartbeats 4000000 in
theorem sameLife_any {S S' : Nat → Prop} (a b : LifD) (w : World) (cs ds : List Value) (ha : LifIs S w a cs) (hb : LifIs S' w b ds) : Calls Try.prog 60 #[.agg cs.toArray, .agg ds.toArray] w (Tells w (a = b)) := by
  obtain ⟨a_name, a_over⟩ := a
  obtain ⟨b_name, b_over⟩ := b
  have ag1 := agg_ok ha.len ha.one
  have ag2 := agg_ok hb.len hb.one
  obtain ⟨p1, q1, hcs, ah_name, ah_over⟩ := ha
  have HCA := shut hcs
  clear hcs
  obtain ⟨x1, y1, hcs, bh_name, bh_over⟩ := hb
  have HCB := shut hcs
  clear hcs
  simp only at HCA HCB ah_name bh_name ah_over bh_over
  have HE : Shut ((LifD.mk a_name a_over) = (LifD.mk b_name b_over) ↔ a_name = b_name ∧ a_over = b_over) := shut (by rw [LifD.mk.injEq])
  obtain ⟨XA, hXA⟩ : ∃ X, X = LifD.mk a_name a_over := ⟨_, rfl⟩
  obtain ⟨XB, hXB⟩ : ∃ X, X = LifD.mk b_name b_over := ⟨_, rfl⟩
  rw [← hXA, ← hXB] at HE ⊢
  clear hXA hXB
  obtain ⟨CA, hCA⟩ : ∃ C, C = cs.toArray := ⟨_, rfl⟩
  obtain ⟨CB, hCB⟩ : ∃ C, C = ds.toArray := ⟨_, rfl⟩
  rw [← hCA] at ag1 ⊢
  rw [← hCB] at ag2 ⊢
  rw [HCA.out] at hCA
  rw [HCB.out] at hCB
  have GCA := shut hCA
  have GCB := shut hCB
  clear hCA hCB HCA HCB
  have KW : Keeps Nothing w ((w.alloc (.cells CA 75)).alloc (.cells CB 75)) := ((Keeps.refl Nothing w).alloc _).alloc _
  have BA : Blk ((w.alloc (.cells CA 75)).alloc (.cells CB 75)) w.heap.size CA 75 := blk_alloc (blk_new w CA 75) _
  have BB : Blk ((w.alloc (.cells CA 75)).alloc (.cells CB 75)) (w.heap.size + 1) CB 75 := by have h := blk_new (w.alloc (.cells CA 75)) CB 75; rwa [World.size_alloc] at h
  go_enter Try.func60, Try.ntmps60
  obtain ⟨ae0, ae1⟩ := LifB  GCA.out BA
  obtain ⟨be0, be1⟩ := LifB  GCB.out BB
  have ac0 := blk_inv BA ae0
  have bc0 := blk_inv BB be0
  have ac1 := blk_inv BA ae1
  have bc1 := blk_inv BB be1
  by_cases e_name : a_name = b_name
  rotate_left
  · have hno : Shut (¬ XA = XB) := shut (fun h => e_name ((HE.out.1 h).1))
    clear HE GCA GCB BA BB
    have hq : (a_name == b_name) = false := by rw [beq_eq_false_iff_ne]; exact e_name
    unfold txV at *
    go_wp2_with fail
    go_ret
    exact tells_f hno.out KW
  subst e_name
  have hq_name : (a_name == a_name) = true := beq_self_eq_true _
  have hc := equal_tx ((w.alloc (.cells CA 75)).alloc (.cells CB 75)) q1 y1 (ah_over.keeps KW (fun _ _ h => h) (fun _ h => h) (fun _ _ _ h => h)) (bh_over.keeps KW (fun _ _ h => h) (fun _ h => h) (fun _ _ _ h => h))
  unfold txV at *
  go_wp2_with fail
  refine hc.mono ?_
  rintro e w1 ⟨⟨z, rfl, hz⟩, k1⟩
  have KW := KW.trans k1 (fun _ h _ => h)
  have BA := k1.blk BA (fun h => h)
  have BB := k1.blk BB (fun h => h)
  clear hc k1 ae0 ac0 be0 bc0 ae1 ac1 be1 bc1 hq_name
  cases z
  · have hno : Shut (¬ XA = XB) := shut (fun h => by have h2 := hz.2 ((HE.out.1 h).2); cases h2)
    clear HE GCA GCB BA BB hz
    go_wp2_with fail
    go_ret
    exact tells_f hno.out KW
  have E_over := shut (hz.1 rfl)
  clear hz
  go_wp2_with fail
  go_ret
  exact tells_t (HE.out.2 ⟨(by first | rfl | trivial), E_over.out⟩) KW

set_option maxRecDepth 100000 in
set_option maxHeartbeats 4000000 in
theorem eqf_lif (f : FuncId) (hcf : Entered f) {S S' : Nat → Prop} {l m : List LifD} (hf : ∀ a ∈ l, ∀ b ∈ m, ∀ (W : World) (cs ds : List Value), LifIs S W a cs → LifIs S' W b ds → Calls Try.prog f #[.agg cs.toArray, .agg ds.toArray] W (Tells W (a = b)))
    (w : World) {ax ay : Option Addr} (cx cy : Nat) (hx : SlIs S w 2 (LifIs S w) ax l) (hy : SlIs S' w 2 (LifIs S' w) ay m) :
    Calls Try.prog 81 #[.slice ax l.length cx, .slice ay m.length cy, .func (.func f) #[] #[]] w (Tells w (l = m)) := by
  have hlx := hx.1
  have hly := hy.1
  unfold bigN at hlx hly
  have HX := shut hx
  have HY := shut hy
  have HF := shut hf
  clear hx hy hf
  by_cases hne : l.length = m.length
  · obtain ⟨n, hn⟩ : ∃ n, l.length = n := ⟨_, rfl⟩
    have hm : m.length = n := by omega
    rw [hn, hm]
    rw [hn] at hlx
    clear hne hly
    have HN := shut hn
    have HM := shut hm
    clear hn hm
    go_enter Try.func81, Try.ntmps81
    go_wp2_with fail
    go_loopw [7, 8, 9, 17] (fun s7 s8 s9 s17 wx => ∃ t : Nat, s17 = .int .i64 t ∧ t ≤ n ∧ Keeps Nothing w wx ∧ Shut (l.take t = m.take t)) (fun _ _ _ s17 _ => n - (intOf s17).toNat)
    case atStart => exact ⟨0, rfl, Nat.zero_le _, Keeps.refl _ _, shut (by simp)⟩
    case round =>
      obtain ⟨t, rfl, ht, K, HT⟩ := hrel
      by_cases hlt : t < n
      · obtain ⟨a, ha⟩ : ∃ a, l[t]? = some a := ⟨_, List.getElem?_eq_getElem (by rw [HN.out]; exact hlt)⟩
        obtain ⟨b, hb⟩ : ∃ b, m[t]? = some b := ⟨_, List.getElem?_eq_getElem (by rw [HM.out]; exact hlt)⟩
        have HA := shut ha
        have HB := shut hb
        obtain ⟨g1, o1, rfl, -, cs, l1, r1, i1⟩ := (HX.out.keeps K (fun _ _ h => h) (fun _ h => h) (fun _ _ _ h => h.keeps K (fun _ _ h => h) (fun _ h => h))).get ha
        obtain ⟨g2, o2, rfl, -, ds, l2, r2, i2⟩ := (HY.out.keeps K (fun _ _ h => h) (fun _ h => h) (fun _ _ _ h => h.keeps K (fun _ _ h => h) (fun _ h => h))).get hb
        have ag1 := agg_ok l1 i1.one
        have ag2 := agg_ok l2 i2.one
        have hcm := List.mem_of_getElem? ha
        have hdm := List.mem_of_getElem? hb
        clear ha hb
        have m0 : (0 : Int) ≤ t := by omega
        have m1 : (t : Int) < n := by omega
        have hk := midOk_range r1
        have ho := midOf_range r1
        rw [l1] at hk ho
        have hz : cs.toArray.size = 2 := by simpa using l1
        obtain ⟨C, hC⟩ : ∃ C, C = cs.toArray := ⟨_, rfl⟩
        rw [← hC] at ag1 ho hz
        have HC := shut hC
        clear hC
        go_upto_region 6 with fail
        have kb1 : Keeps Nothing wr (wr.alloc (.cells C 75)) := (Keeps.refl Nothing wr).alloc _
        have bx1 := blk_new wr C 75
        have r2' := rangeAt_keeps r2 kb1 (fun h => h)
        clear hk ho r2
        generalize hgx1 : wr.heap.size = gx1 at *
        clear hgx1
        have hk := midOk_range r2'
        have ho := midOf_range r2'
        rw [l2] at hk ho
        have hz2 : ds.toArray.size = 2 := by simpa using l2
        obtain ⟨D, hD⟩ : ∃ D, D = ds.toArray := ⟨_, rfl⟩
        rw [← hD] at ag2 ho hz2
        have HD := shut hD
        clear hD
        have KB := K.trans kb1 (fun _ h _ => h)
        have j1 := i1.keeps kb1 (fun _ _ h => h) (fun _ h => h)
        have j2 := i2.keeps kb1 (fun _ _ h => h) (fun _ h => h)
        clear i1 i2 kb1 K r1
        generalize wr.alloc (.cells C 75) = w1 at *
        go_upto_region 7 with fail
        have kb2 : Keeps Nothing w1 (w1.alloc (.cells D 75)) := (Keeps.refl Nothing w1).alloc _
        have bx2 := blk_new w1 D 75
        have bx1 := kb2.blk bx1 (fun h => h)
        have KC := KB.trans kb2 (fun _ h _ => h)
        have q1 := j1.keeps kb2 (fun _ _ h => h) (fun _ h => h)
        have q2 := j2.keeps kb2 (fun _ _ h => h) (fun _ h => h)
        clear hk ho r2' j1 j2 kb2 KB
        generalize hgx2 : w1.heap.size = gx2 at *
        clear hgx2
        generalize w1.alloc (.cells D 75) = w2 at *
        obtain ⟨y1, y2⟩ := tblk_mid bx1 hz
        obtain ⟨y3, y4⟩ := tblk_mid bx2 hz2
        have hcall := HF.out a hcm b hdm w2 cs ds q1 q2
        rw [← HC.out, ← HD.out] at hcall
        clear q1 q2 bx1 bx2
        have hcf2 := hcf #[.agg C, .agg D] w2
        go_wp2_with fail
        clear hcf2
        refine hcall.mono ?_
        rintro e w3 ⟨⟨z, rfl, hzz⟩, k3⟩
        have KD := KC.trans k3 (fun _ h _ => h)
        have HZ := shut hzz
        clear hcall y1 y2 y3 y4 KC k3 hzz
        cases z with
        | true =>
          have HAB := shut (HZ.out.1 rfl)
          clear HZ
          go_wp2_with fail
          go_roundw
          case rel => exact ⟨t + 1, by go_num, by omega, KD, shut (take_eq HA.out HB.out HT.out HAB.out)⟩
          case measure => simp [intOf]; omega
        | false =>
          have HAB : Shut (a ≠ b) := shut (fun h => by have h2 := HZ.out.2 h; cases h2)
          clear HZ
          go_wp2_with fail
          go_ret
          exact tells_f (ne_at HA.out HB.out HAB.out) KD
      · obtain rfl : t = n := by omega
        have m1 : ¬ (t : Int) < t := by omega
        go_wp2_with fail
        go_ret
        refine tells_t ?_ K
        have h := HT.out
        rwa [List.take_of_length_le (Nat.le_of_eq HN.out), List.take_of_length_le (Nat.le_of_eq HM.out)] at h
  · have hne' : ¬ (l.length : Int) = m.length := by omega
    have hl : l ≠ m := fun h => hne (by rw [h])
    go_enter Try.func81, Try.ntmps81
    go_wp2_with fail
    go_ret
    exact tells_f hl (Keeps.refl _ _)

set_option maxHeartbeats 1000000 in
theorem each_lif (f : FuncId) (hcf : Entered f) {S S' : Nat → Prop} {l m : List LifD} (hf : ∀ a ∈ l, ∀ b ∈ m, ∀ (W : World) (cs ds : List Value), LifIs S W a cs → LifIs S' W b ds → Calls Try.prog f #[.agg cs.toArray, .agg ds.toArray] W (Tells W (a = b)))
    (w : World) {ax ay : Option Addr} (cx cy : Nat) (hx : SlIs S w 2 (LifIs S w) ax l) (hy : SlIs S' w 2 (LifIs S' w) ay m) :
    Calls Try.prog 59 #[.slice ax l.length cx, .slice ay m.length cy, .func (.func f) #[] #[]] w (Tells w (l = m)) := by
  have h := eqf_lif f hcf hf w cx cy hx hy
  clear hf hcf hx hy
  go_enter Try.func59, Try.ntmps59
  go_wp2_with fail
  refine h.mono ?_
  rintro e w1 ⟨⟨z, rfl, hz⟩, k⟩
  have HZ := shut hz
  clear hz h
  go_wp2_with fail
  go_ret
  exact tells_z HZ.out k
theorem ent_sameFunc : Entered 33 := entered_of Try.func33 (by kernel_rfl) (by kernel_rfl)
set_option maxRecDepth 100000 in
set_option maxHeartbeats 4000000 in
theorem sameFunc_any {S S' : Nat → Prop} (a b : FunD) (w : World) (cs ds : List Value) (ha : FunIs S w a cs) (hb : FunIs S' w b ds) : Calls Try.prog 33 #[.agg cs.toArray, .agg ds.toArray] w (Tells w (a = b)) := by
  obtain ⟨a_pub, a_name, a_lives, a_params, a_result, a_body, a_pos⟩ := a
  obtain ⟨b_pub, b_name, b_lives, b_params, b_result, b_body, b_pos⟩ := b
  have ag1 := agg_ok ha.len ha.one
  have ag2 := agg_ok hb.len hb.one
  obtain ⟨p2, q2, p3, q3, s4, p8, q8, hcs, ah_name, ah_lives, ah_params, ah_result, ah_body⟩ := ha
  have HCA := shut hcs
  clear hcs
  obtain ⟨x2, y2, x3, y3, t4, x8, y8, hcs, bh_name, bh_lives, bh_params, bh_result, bh_body⟩ := hb
  have HCB := shut hcs
  clear hcs
  simp only at HCA HCB ah_name bh_name ah_lives bh_lives ah_params bh_params ah_result bh_result ah_body bh_body
  have HE : Shut ((FunD.mk a_pub a_name a_lives a_params a_result a_body a_pos) = (FunD.mk b_pub b_name b_lives b_params b_result b_body b_pos) ↔ a_pub = b_pub ∧ a_name = b_name ∧ a_lives = b_lives ∧ a_params = b_params ∧ a_result = b_result ∧ a_body = b_body ∧ a_pos = b_pos) := shut (by rw [FunD.mk.injEq])
  obtain ⟨XA, hXA⟩ : ∃ X, X = FunD.mk a_pub a_name a_lives a_params a_result a_body a_pos := ⟨_, rfl⟩
  obtain ⟨XB, hXB⟩ : ∃ X, X = FunD.mk b_pub b_name b_lives b_params b_result b_body b_pos := ⟨_, rfl⟩
  rw [← hXA, ← hXB] at HE ⊢
  clear hXA hXB
  obtain ⟨CA, hCA⟩ : ∃ C, C = cs.toArray := ⟨_, rfl⟩
  obtain ⟨CB, hCB⟩ : ∃ C, C = ds.toArray := ⟨_, rfl⟩
  rw [← hCA] at ag1 ⊢
  rw [← hCB] at ag2 ⊢
  rw [HCA.out] at hCA
  rw [HCB.out] at hCB
  have GCA := shut hCA
  have GCB := shut hCB
  clear hCA hCB HCA HCB
  have KW : Keeps Nothing w ((w.alloc (.cells CA 36)).alloc (.cells CB 36)) := ((Keeps.refl Nothing w).alloc _).alloc _
  have BA : Blk ((w.alloc (.cells CA 36)).alloc (.cells CB 36)) w.heap.size CA 36 := blk_alloc (blk_new w CA 36) _
  have BB : Blk ((w.alloc (.cells CA 36)).alloc (.cells CB 36)) (w.heap.size + 1) CB 36 := by have h := blk_new (w.alloc (.cells CA 36)) CB 36; rwa [World.size_alloc] at h
  have al_result := ah_result.len
  have bl_result := bh_result.len
  go_enter Try.func33, Try.ntmps33
  obtain ⟨ae0, ae1, ae2, -, -, -, ae9⟩ := FunB al_result GCA.out BA
  obtain ⟨be0, be1, be2, -, -, -, be9⟩ := FunB bl_result GCB.out BB
  have ac0 := blk_inv BA ae0
  have bc0 := blk_inv BB be0
  have ac1 := blk_inv BA ae1
  have bc1 := blk_inv BB be1
  have ac2 := blk_inv BA ae2
  have bc2 := blk_inv BB be2
  have ac9 := blk_inv BA ae9
  have bc9 := blk_inv BB be9
  by_cases e_pub : a_pub = b_pub
  rotate_left
  · have hno : Shut (¬ XA = XB) := shut (fun h => e_pub ((HE.out.1 h).1))
    clear HE GCA GCB BA BB
    unfold txV at *
    have hq : (a_pub == b_pub) = false := by rw [beq_eq_false_iff_ne]; exact e_pub
    go_wp2_with fail
    go_ret
    exact tells_f hno.out KW
  subst e_pub
  by_cases e_name : a_name = b_name
  rotate_left
  · have hno : Shut (¬ XA = XB) := shut (fun h => e_name ((HE.out.1 h).2.1))
    clear HE GCA GCB BA BB
    have hq : (a_name == b_name) = false := by rw [beq_eq_false_iff_ne]; exact e_name
    unfold txV at *
    go_wp2_with fail
    go_ret
    exact tells_f hno.out KW
  subst e_name
  have hq_name : (a_name == a_name) = true := beq_self_eq_true _
  by_cases e_pos : a_pos = b_pos
  rotate_left
  · have hno : Shut (¬ XA = XB) := shut (fun h => e_pos ((HE.out.1 h).2.2.2.2.2.2))
    clear HE GCA GCB BA BB
    unfold txV at *
    go_wp2_with fail
    go_ret
    exact tells_f hno.out KW
  subst e_pos
  have hc := each_lif _ ent_sameLife (fun a _ b _ W cs ds h1 h2 => sameLife_any a b W cs ds h1 h2) ((w.alloc (.cells CA 36)).alloc (.cells CB 36)) q2 y2 (ah_lives.keeps KW (fun _ _ h => h) (fun _ h => h) (fun _ _ _ h => h.keeps KW (fun _ _ h => h) (fun _ h => h))) (bh_lives.keeps KW (fun _ _ h => h) (fun _ h => h) (fun _ _ _ h => h.keeps KW (fun _ _ h => h) (fun _ h => h)))
  unfold txV at *
  go_wp2_with fail
  refine hc.mono ?_
  rintro e w1 ⟨⟨z, rfl, hz⟩, k1⟩
  have KW := KW.trans k1 (fun _ h _ => h)
  have BA := k1.blk BA (fun h => h)
  have BB := k1.blk BB (fun h => h)
  clear hc k1 ae0 ac0 be0 bc0 ae1 ac1 be1 bc1 ae2 ac2 be2 bc2 ae9 ac9 be9 bc9 hq_name
  cases z
  · have hno : Shut (¬ XA = XB) := shut (fun h => by have h2 := hz.2 ((HE.out.1 h).2.2.1); cases h2)
    clear HE GCA GCB BA BB hz
    go_wp2_with fail
    go_ret
    exact tells_f hno.out KW
  have E_lives := shut (hz.1 rfl)
  clear hz
  obtain ⟨-, -, -, ae3, -, -, -⟩ := FunB al_result GCA.out BA
  obtain ⟨-, -, -, be3, -, -, -⟩ := FunB bl_result GCB.out BB
  have hc := each_fld _ ent_sameField (fun a _ b _ W cs ds h1 h2 => sameField_any a b W cs ds h1 h2) w1 q3 y3 (ah_params.keeps KW (fun _ _ h => h) (fun _ h => h) (fun _ _ _ h => h.keeps KW (fun _ _ h => h) (fun _ h => h))) (bh_params.keeps KW (fun _ _ h => h) (fun _ h => h) (fun _ _ _ h => h.keeps KW (fun _ _ h => h) (fun _ h => h)))
  skip
  go_wp2_with fail
  refine hc.mono ?_
  rintro e w2 ⟨⟨z, rfl, hz⟩, k2⟩
  have KW := KW.trans k2 (fun _ h _ => h)
  have BA := k2.blk BA (fun h => h)
  have BB := k2.blk BB (fun h => h)
  clear hc k2 ae3 be3
  cases z
  · have hno : Shut (¬ XA = XB) := shut (fun h => by have h2 := hz.2 ((HE.out.1 h).2.2.2.1); cases h2)
    clear HE GCA GCB BA BB hz
    go_wp2_with fail
    go_ret
    exact tells_f hno.out KW
  have E_params := shut (hz.1 rfl)
  clear hz
  obtain ⟨-, -, -, -, ⟨ae4, af4⟩, -, -⟩ := FunB al_result GCA.out BA
  obtain ⟨-, -, -, -, ⟨be4, bf4⟩, -, -⟩ := FunB bl_result GCB.out BB
  have hc := sameType_any _ _ w2 _ _ (ah_result.keeps KW (fun _ _ h => h) (fun _ h => h)) (bh_result.keeps KW (fun _ _ h => h) (fun _ h => h))
  generalize hsa : s4.toArray = sa at *
  generalize hsb : t4.toArray = sb at *
  clear hsa hsb
  skip
  go_wp2_with fail
  refine hc.mono ?_
  rintro e w3 ⟨⟨z, rfl, hz⟩, k3⟩
  have KW := KW.trans k3 (fun _ h _ => h)
  have BA := k3.blk BA (fun h => h)
  have BB := k3.blk BB (fun h => h)
  clear hc k3 ae4 af4 be4 bf4
  cases z
  · have hno : Shut (¬ XA = XB) := shut (fun h => by have h2 := hz.2 ((HE.out.1 h).2.2.2.2.1); cases h2)
    clear HE GCA GCB BA BB hz
    go_wp2_with fail
    go_ret
    exact tells_f hno.out KW
  have E_result := shut (hz.1 rfl)
  clear hz
  obtain ⟨-, -, -, -, -, ae8, -⟩ := FunB al_result GCA.out BA
  obtain ⟨-, -, -, -, -, be8, -⟩ := FunB bl_result GCB.out BB
  have hc := each_st _ ent_sameStmt (fun a _ b _ W cs ds h1 h2 => sameStmt_any a b W cs ds h1 h2) w3 q8 y8 (ah_body.keeps KW (fun _ _ h => h) (fun _ h => h) (fun _ _ _ h => h.keeps KW (fun _ _ h => h) (fun _ h => h))) (bh_body.keeps KW (fun _ _ h => h) (fun _ h => h) (fun _ _ _ h => h.keeps KW (fun _ _ h => h) (fun _ h => h)))
  skip
  go_wp2_with fail
  refine hc.mono ?_
  rintro e w4 ⟨⟨z, rfl, hz⟩, k4⟩
  have KW := KW.trans k4 (fun _ h _ => h)
  have BA := k4.blk BA (fun h => h)
  have BB := k4.blk BB (fun h => h)
  clear hc k4 ae8 be8
  cases z
  · have hno : Shut (¬ XA = XB) := shut (fun h => by have h2 := hz.2 ((HE.out.1 h).2.2.2.2.2.1); cases h2)
    clear HE GCA GCB BA BB hz
    go_wp2_with fail
    go_ret
    exact tells_f hno.out KW
  have E_body := shut (hz.1 rfl)
  clear hz
  go_wp2_with fail
  go_ret
  exact tells_t (HE.out.2 ⟨(by first | rfl | trivial), (by first | rfl | trivial), E_lives.out, E_params.out, E_result.out, E_body.out, (by first | rfl | trivial)⟩) KW

set_option maxRecDepth 100000 in
set_option maxHeartbeats 4000000 in
theorem eqf_fun (f : FuncId) (hcf : Entered f) {S S' : Nat → Prop} {l m : List FunD} (hf : ∀ a ∈ l, ∀ b ∈ m, ∀ (W : World) (cs ds : List Value), FunIs S W a cs → FunIs S' W b ds → Calls Try.prog f #[.agg cs.toArray, .agg ds.toArray] W (Tells W (a = b)))
    (w : World) {ax ay : Option Addr} (cx cy : Nat) (hx : SlIs S w 10 (FunIs S w) ax l) (hy : SlIs S' w 10 (FunIs S' w) ay m) :
    Calls Try.prog 58 #[.slice ax l.length cx, .slice ay m.length cy, .func (.func f) #[] #[]] w (Tells w (l = m)) := by
  have hlx := hx.1
  have hly := hy.1
  unfold bigN at hlx hly
  have HX := shut hx
  have HY := shut hy
  have HF := shut hf
  clear hx hy hf
  by_cases hne : l.length = m.length
  · obtain ⟨n, hn⟩ : ∃ n, l.length = n := ⟨_, rfl⟩
    have hm : m.length = n := by omega
    rw [hn, hm]
    rw [hn] at hlx
    clear hne hly
    have HN := shut hn
    have HM := shut hm
    clear hn hm
    go_enter Try.func58, Try.ntmps58
    go_wp2_with fail
    go_loopw [7, 8, 9, 17] (fun s7 s8 s9 s17 wx => ∃ t : Nat, s17 = .int .i64 t ∧ t ≤ n ∧ Keeps Nothing w wx ∧ Shut (l.take t = m.take t)) (fun _ _ _ s17 _ => n - (intOf s17).toNat)
    case atStart => exact ⟨0, rfl, Nat.zero_le _, Keeps.refl _ _, shut (by simp)⟩
    case round =>
      obtain ⟨t, rfl, ht, K, HT⟩ := hrel
      by_cases hlt : t < n
      · obtain ⟨a, ha⟩ : ∃ a, l[t]? = some a := ⟨_, List.getElem?_eq_getElem (by rw [HN.out]; exact hlt)⟩
        obtain ⟨b, hb⟩ : ∃ b, m[t]? = some b := ⟨_, List.getElem?_eq_getElem (by rw [HM.out]; exact hlt)⟩
        have HA := shut ha
        have HB := shut hb
        obtain ⟨g1, o1, rfl, -, cs, l1, r1, i1⟩ := (HX.out.keeps K (fun _ _ h => h) (fun _ h => h) (fun _ _ _ h => h.keeps K (fun _ _ h => h) (fun _ h => h))).get ha
        obtain ⟨g2, o2, rfl, -, ds, l2, r2, i2⟩ := (HY.out.keeps K (fun _ _ h => h) (fun _ h => h) (fun _ _ _ h => h.keeps K (fun _ _ h => h) (fun _ h => h))).get hb
        have ag1 := agg_ok l1 i1.one
        have ag2 := agg_ok l2 i2.one
        have hcm := List.mem_of_getElem? ha
        have hdm := List.mem_of_getElem? hb
        clear ha hb
        have m0 : (0 : Int) ≤ t := by omega
        have m1 : (t : Int) < n := by omega
        have hk := midOk_range r1
        have ho := midOf_range r1
        rw [l1] at hk ho
        have hz : cs.toArray.size = 10 := by simpa using l1
        obtain ⟨C, hC⟩ : ∃ C, C = cs.toArray := ⟨_, rfl⟩
        rw [← hC] at ag1 ho hz
        have HC := shut hC
        clear hC
        go_upto_region 6 with fail
        have kb1 : Keeps Nothing wr (wr.alloc (.cells C 36)) := (Keeps.refl Nothing wr).alloc _
        have bx1 := blk_new wr C 36
        have r2' := rangeAt_keeps r2 kb1 (fun h => h)
        clear hk ho r2
        generalize hgx1 : wr.heap.size = gx1 at *
        clear hgx1
        have hk := midOk_range r2'
        have ho := midOf_range r2'
        rw [l2] at hk ho
        have hz2 : ds.toArray.size = 10 := by simpa using l2
        obtain ⟨D, hD⟩ : ∃ D, D = ds.toArray := ⟨_, rfl⟩
        rw [← hD] at ag2 ho hz2
        have HD := shut hD
        clear hD
        have KB := K.trans kb1 (fun _ h _ => h)
        have j1 := i1.keeps kb1 (fun _ _ h => h) (fun _ h => h)
        have j2 := i2.keeps kb1 (fun _ _ h => h) (fun _ h => h)
        clear i1 i2 kb1 K r1
        generalize wr.alloc (.cells C 36) = w1 at *
        go_upto_region 7 with fail
        have kb2 : Keeps Nothing w1 (w1.alloc (.cells D 36)) := (Keeps.refl Nothing w1).alloc _
        have bx2 := blk_new w1 D 36
        have bx1 := kb2.blk bx1 (fun h => h)
        have KC := KB.trans kb2 (fun _ h _ => h)
        have q1 := j1.keeps kb2 (fun _ _ h => h) (fun _ h => h)
        have q2 := j2.keeps kb2 (fun _ _ h => h) (fun _ h => h)
        clear hk ho r2' j1 j2 kb2 KB
        generalize hgx2 : w1.heap.size = gx2 at *
        clear hgx2
        generalize w1.alloc (.cells D 36) = w2 at *
        obtain ⟨y1, y2⟩ := tblk_mid bx1 hz
        obtain ⟨y3, y4⟩ := tblk_mid bx2 hz2
        have hcall := HF.out a hcm b hdm w2 cs ds q1 q2
        rw [← HC.out, ← HD.out] at hcall
        clear q1 q2 bx1 bx2
        have hcf2 := hcf #[.agg C, .agg D] w2
        go_wp2_with fail
        clear hcf2
        refine hcall.mono ?_
        rintro e w3 ⟨⟨z, rfl, hzz⟩, k3⟩
        have KD := KC.trans k3 (fun _ h _ => h)
        have HZ := shut hzz
        clear hcall y1 y2 y3 y4 KC k3 hzz
        cases z with
        | true =>
          have HAB := shut (HZ.out.1 rfl)
          clear HZ
          go_wp2_with fail
          go_roundw
          case rel => exact ⟨t + 1, by go_num, by omega, KD, shut (take_eq HA.out HB.out HT.out HAB.out)⟩
          case measure => simp [intOf]; omega
        | false =>
          have HAB : Shut (a ≠ b) := shut (fun h => by have h2 := HZ.out.2 h; cases h2)
          clear HZ
          go_wp2_with fail
          go_ret
          exact tells_f (ne_at HA.out HB.out HAB.out) KD
      · obtain rfl : t = n := by omega
        have m1 : ¬ (t : Int) < t := by omega
        go_wp2_with fail
        go_ret
        refine tells_t ?_ K
        have h := HT.out
        rwa [List.take_of_length_le (Nat.le_of_eq HN.out), List.take_of_length_le (Nat.le_of_eq HM.out)] at h
  · have hne' : ¬ (l.length : Int) = m.length := by omega
    have hl : l ≠ m := fun h => hne (by rw [h])
    go_enter Try.func58, Try.ntmps58
    go_wp2_with fail
    go_ret
    exact tells_f hl (Keeps.refl _ _)

set_option maxHeartbeats 1000000 in
theorem each_fun (f : FuncId) (hcf : Entered f) {S S' : Nat → Prop} {l m : List FunD} (hf : ∀ a ∈ l, ∀ b ∈ m, ∀ (W : World) (cs ds : List Value), FunIs S W a cs → FunIs S' W b ds → Calls Try.prog f #[.agg cs.toArray, .agg ds.toArray] W (Tells W (a = b)))
    (w : World) {ax ay : Option Addr} (cx cy : Nat) (hx : SlIs S w 10 (FunIs S w) ax l) (hy : SlIs S' w 10 (FunIs S' w) ay m) :
    Calls Try.prog 32 #[.slice ax l.length cx, .slice ay m.length cy, .func (.func f) #[] #[]] w (Tells w (l = m)) := by
  have h := eqf_fun f hcf hf w cx cy hx hy
  clear hf hcf hx hy
  go_enter Try.func32, Try.ntmps32
  go_wp2_with fail
  refine h.mono ?_
  rintro e w1 ⟨⟨z, rfl, hz⟩, k⟩
  have HZ := shut hz
  clear hz h
  go_wp2_with fail
  go_ret
  exact tells_z HZ.out k
set_option maxRecDepth 100000 in
set_option maxHeartbeats 4000000 in
theorem same_any {S S' : Nat → Prop} (a b : CrD) (w : World) (cs ds : List Value) (ha : CrIs S w a cs) (hb : CrIs S' w b ds) : Calls Try.prog 12 #[.agg cs.toArray, .agg ds.toArray] w (Tells w (a = b)) := by
  obtain ⟨a_structs, a_funcs⟩ := a
  obtain ⟨b_structs, b_funcs⟩ := b
  have ag1 := agg_ok ha.len ha.one
  have ag2 := agg_ok hb.len hb.one
  obtain ⟨p0, q0, p1, q1, hcs, ah_structs, ah_funcs⟩ := ha
  have HCA := shut hcs
  clear hcs
  obtain ⟨x0, y0, x1, y1, hcs, bh_structs, bh_funcs⟩ := hb
  have HCB := shut hcs
  clear hcs
  simp only at HCA HCB ah_structs bh_structs ah_funcs bh_funcs
  have HE : Shut ((CrD.mk a_structs a_funcs) = (CrD.mk b_structs b_funcs) ↔ a_structs = b_structs ∧ a_funcs = b_funcs) := shut (by rw [CrD.mk.injEq])
  obtain ⟨XA, hXA⟩ : ∃ X, X = CrD.mk a_structs a_funcs := ⟨_, rfl⟩
  obtain ⟨XB, hXB⟩ : ∃ X, X = CrD.mk b_structs b_funcs := ⟨_, rfl⟩
  rw [← hXA, ← hXB] at HE ⊢
  clear hXA hXB
  obtain ⟨CA, hCA⟩ : ∃ C, C = cs.toArray := ⟨_, rfl⟩
  obtain ⟨CB, hCB⟩ : ∃ C, C = ds.toArray := ⟨_, rfl⟩
  rw [← hCA] at ag1 ⊢
  rw [← hCB] at ag2 ⊢
  rw [HCA.out] at hCA
  rw [HCB.out] at hCB
  have GCA := shut hCA
  have GCB := shut hCB
  clear hCA hCB HCA HCB
  have KW : Keeps Nothing w ((w.alloc (.cells CA 25)).alloc (.cells CB 25)) := ((Keeps.refl Nothing w).alloc _).alloc _
  have BA : Blk ((w.alloc (.cells CA 25)).alloc (.cells CB 25)) w.heap.size CA 25 := blk_alloc (blk_new w CA 25) _
  have BB : Blk ((w.alloc (.cells CA 25)).alloc (.cells CB 25)) (w.heap.size + 1) CB 25 := by have h := blk_new (w.alloc (.cells CA 25)) CB 25; rwa [World.size_alloc] at h
  go_enter Try.func12, Try.ntmps12
  obtain ⟨ae0, -⟩ := CrB  GCA.out BA
  obtain ⟨be0, -⟩ := CrB  GCB.out BB
  have ac0 := blk_inv BA ae0
  have bc0 := blk_inv BB be0
  have hc := each_str _ ent_sameStruct (fun a _ b _ W cs ds h1 h2 => sameStruct_any a b W cs ds h1 h2) ((w.alloc (.cells CA 25)).alloc (.cells CB 25)) q0 y0 (ah_structs.keeps KW (fun _ _ h => h) (fun _ h => h) (fun _ _ _ h => h.keeps KW (fun _ _ h => h) (fun _ h => h))) (bh_structs.keeps KW (fun _ _ h => h) (fun _ h => h) (fun _ _ _ h => h.keeps KW (fun _ _ h => h) (fun _ h => h)))
  skip
  go_wp2_with fail
  refine hc.mono ?_
  rintro e w1 ⟨⟨z, rfl, hz⟩, k1⟩
  have KW := KW.trans k1 (fun _ h _ => h)
  have BA := k1.blk BA (fun h => h)
  have BB := k1.blk BB (fun h => h)
  clear hc k1 ae0 ac0 be0 bc0
  cases z
  · have hno : Shut (¬ XA = XB) := shut (fun h => by have h2 := hz.2 ((HE.out.1 h).1); cases h2)
    clear HE GCA GCB BA BB hz
    go_wp2_with fail
    go_ret
    exact tells_f hno.out KW
  have E_structs := shut (hz.1 rfl)
  clear hz
  obtain ⟨-, ae1⟩ := CrB  GCA.out BA
  obtain ⟨-, be1⟩ := CrB  GCB.out BB
  have hc := each_fun _ ent_sameFunc (fun a _ b _ W cs ds h1 h2 => sameFunc_any a b W cs ds h1 h2) w1 q1 y1 (ah_funcs.keeps KW (fun _ _ h => h) (fun _ h => h) (fun _ _ _ h => h.keeps KW (fun _ _ h => h) (fun _ h => h))) (bh_funcs.keeps KW (fun _ _ h => h) (fun _ h => h) (fun _ _ _ h => h.keeps KW (fun _ _ h => h) (fun _ h => h)))
  skip
  go_wp2_with fail
  refine hc.mono ?_
  rintro e w2 ⟨⟨z, rfl, hz⟩, k2⟩
  have KW := KW.trans k2 (fun _ h _ => h)
  have BA := k2.blk BA (fun h => h)
  have BB := k2.blk BB (fun h => h)
  clear hc k2 ae1 be1
  cases z
  · have hno : Shut (¬ XA = XB) := shut (fun h => by have h2 := hz.2 ((HE.out.1 h).2); cases h2)
    clear HE GCA GCB BA BB hz
    go_wp2_with fail
    go_ret
    exact tells_f hno.out KW
  have E_funcs := shut (hz.1 rfl)
  clear hz
  go_wp2_with fail
  go_ret
  exact tells_t (HE.out.2 ⟨E_structs.out, E_funcs.out⟩) KW

end Go.Proofs.Ytjbcagbnagefcaa
