/- TrB Tree58 MixH Tree59 Sig3 TrC -/
import Derived.Test.YtjbcagbnagefcaaGreatZb6
import Derived.Test.YtjbcagbnagefcaaGreatZb2
import Derived.Test.YtjbcagbnagefcaaGreatZb1
import Derived.OneCell
import Derived.Laws.EntriesVeiled
namespace Go.Proofs.YtjbcagbnagefcaaGreat
open Go.RowKit
attribute [local go_sem ↓] exec_mid_ty exec_store_ty exec_mid_pl exec_store_pl exec_mid_opr exec_store_opr exec_mid_val exec_store_val exec_mid_st exec_store_st exec_mid_fld exec_store_fld exec_mid_str exec_store_str exec_mid_lif exec_store_lif exec_mid_fun exec_store_fun exec_mid_cr exec_store_cr
attribute [local go_sem] rowOk_new World.setRow_alloc_new
theorem ty_kind_cell {w w0 : World} {S : Nat → Prop} {g o : Nat} {v : TyD} {s : List Value} (h1 : midOk w g o 4 = true) (h2 : midOf w g o 4 = s.toArray) (hv : TyIs S w0 v s) : w.cell? ⟨g, o, none⟩ = some (.int .i64 v.kind) := by
 rw [tyIs_iff] at hv
 obtain ⟨p2, q2, p3, q3, rfl, -⟩ := hv
 have h := range_midOk h1
 rw [h2] at h
 exact h 0 _ rfl
def LifP (l : LifD) : Prop := isLife l.name = true ∧ LivesP l.over
def ResP (t : TyD) : Prop := (t.kind = 0 ∧ t.name = [] ∧ t.lives = [] ∧ t.elem = []) ∨ TyP t 1
def FunP (f : FunD) : Prop := (∀ l ∈ f.lives, LifP l) ∧ isName f.name = true ∧ f.lives.length ≤ 64 ∧ FldsP f.params true ∧ ResP f.result ∧ BlP f.body 1 ∧ IntKind.i64.wrap (cntL f.body : Int) ≤ 2000
set_option maxRecDepth 100000 in
set_option maxHeartbeats 8000000 in
theorem function_any {S : Nat → Prop} (a : FunD) (w : World) (hM : MaxV w) (cs : List Value) (ha : FunIs S w a cs) : Calls Tryz.prog 88 #[.agg cs.toArray] w (Tells w (FunP a)) := by
 obtain ⟨a_pub, a_name, a_lives, a_params, a_result, a_body, a_pos⟩ := a
 have HP : Shut (FunP ⟨a_pub, a_name, a_lives, a_params, a_result, a_body, a_pos⟩ ↔ (∀ l ∈ a_lives, LifP l) ∧ isName a_name = true ∧ a_lives.length ≤ 64 ∧ FldsP a_params true ∧ ResP a_result ∧ BlP a_body 1 ∧ IntKind.i64.wrap (cntL a_body : Int) ≤ 2000) := shut Iff.rfl
 obtain ⟨X, hX⟩ : ∃ X, X = FunP ⟨a_pub, a_name, a_lives, a_params, a_result, a_body, a_pos⟩ := ⟨_, rfl⟩
 rw [← hX] at HP ⊢
 clear hX
 have HM := shut hM
 clear hM
 have ag1 := agg_ok ha.len ha.one
 obtain ⟨p2, q2, p3, q3, s4, p8, q8, hcs, ah_name, ah_lives, ah_params, ah_result, ah_body⟩ := ha
 have HCA := shut hcs
 clear hcs
 simp only at ah_name ah_lives ah_params ah_result ah_body HCA
 obtain ⟨CA, hCA⟩ : ∃ C, C = cs.toArray := ⟨_, rfl⟩
 rw [← hCA] at ag1 ⊢
 rw [HCA.out] at hCA
 have GCA := shut hCA
 clear hCA HCA
 have al_result := ah_result.len
 have KW : Keeps Nothing w (w.alloc (.cells CA 56)) := (Keeps.refl Nothing w).alloc _
 have BA := blk_new w CA 56
 go_enter Tryz.func88, Tryz.ntmps88
 go_upto_region 1 with fail
 clear ag1
 generalize w.heap.size = ga at *
 generalize w.alloc (.cells CA 56) = wb at *
 obtain ⟨n, hn⟩ : ∃ n, a_lives.length = n := ⟨_, rfl⟩
 have hnb : n ≤ bigN := by rw [← hn]; exact ah_lives.1
 unfold bigN at hnb
 rw [hn] at GCA HP
 have HN := shut hn
 clear hn
 obtain ⟨-, -, ae2, -, -, -, -⟩ := FunB al_result GCA.out BA
 go_wp2_with fail
 clear ae2
 go_loopw [4, 9] (fun s4 s9 wx => ∃ t : Nat, s9 = .int .i64 t ∧ t ≤ n ∧ Keeps Nothing wb wx ∧ Shut (∀ l ∈ a_lives.take t, LifP l)) (fun _ s9 _ => n - (intOf s9).toNat)
 case atStart => exact ⟨0, rfl, Nat.zero_le _, Keeps.refl _ _, shut (by simp)⟩
 case round =>
  obtain ⟨t, rfl, ht, KL, HT⟩ := hrel
  have BF := KL.blk BA (fun h => h)
  by_cases hlt : t < n
  ·obtain ⟨a, ha⟩ : ∃ a, a_lives[t]? = some a := ⟨_, List.getElem?_eq_getElem (by rw [HN.out]; exact hlt)⟩
   have KW0 := KW.trans KL (fun _ h _ => h)
   obtain ⟨g1, o1, rfl, -, cs2, l1, r1, hi⟩ := (ah_lives.keeps KW0 (fun _ _ h => h) (fun _ h => h) (fun _ _ _ h => h.keeps KW0 (fun _ _ h => h) (fun _ h => h))).get ha
   have HA := shut ha
   clear ha BA
   have m0 : (0 : Int) ≤ t := by omega
   have m1 : (t : Int) < n := by omega
   have ag1 := agg_ok l1 hi.one
   obtain ⟨CB, hC2⟩ : ∃ C, C = cs2.toArray := ⟨_, rfl⟩
   obtain ⟨hk, ho⟩ := sub_of r1 l1
   have hsz : CB.size = 2 := by rw [hC2]; simpa using l1
   rw [← hC2] at ag1 ho
   have HC2 := shut hC2
   clear hC2 r1 l1
   go_upto_region 4 with fail
   have ka : Keeps Nothing wr (wr.alloc (.cells CB 76)) := (Keeps.refl Nothing wr).alloc _
   have BL := blk_new wr CB 76
   have KX := KL.trans ka (fun _ h _ => h)
   have hi := hi.keeps ka (fun _ _ h => h) (fun _ h => h)
   clear hk ho ag1 ka
   generalize wr.heap.size = gl at *
   generalize wr.alloc (.cells CB 76) = wl at *
   obtain ⟨l_name, l_over⟩ := a
   obtain ⟨p1, q1, hcs, lh_name, lh_over⟩ := hi
   rw [hcs] at HC2
   simp only at lh_name lh_over HC2
   have HP2 : Shut (LifP ⟨l_name, l_over⟩ ↔ isLife l_name = true ∧ LivesP l_over) := shut Iff.rfl
   obtain ⟨Y, hY⟩ : ∃ Y, Y = (⟨l_name, l_over⟩ : LifD) := ⟨_, rfl⟩
   rw [← hY] at HP2 HA
   clear hY
   have hout : Shut (¬ LifP Y → ¬ X) := shut (fun h h2 => h ((HP.out.1 h2).1 Y (List.mem_of_getElem? HA.out)))
   have KW := KW.trans KX (fun _ h _ => h)
   obtain ⟨le0, le1⟩ := LifB HC2.out BL
   unfold txV at *
   have h1 := tlife_any wl l_name lh_name
   obtain ⟨z1, hz1⟩ : ∃ z, isLife l_name = z := ⟨_, rfl⟩
   rw [hz1] at h1
   repeat (first | go_values | go_skip | go_guarded | go_step | go_upon | go_back)
   refine h1.mono ?_
   rintro e w1 ⟨rfl, rfl⟩
   clear h1
   try dsimp only
   cases z1 with
   | false =>
    have hno := shut (hout.out (fun h => by have h2 := (HP2.out.1 h).1; rw [hz1] at h2; cases h2))
    clear HP HP2 hout
    repeat (first | go_values | go_skip | go_guarded | go_step | go_upon | go_back)
    go_ret
    exact tells_f hno.out KW
   | true =>
    have hc := lives_any w1 q1 lh_over
    repeat (first | go_values | go_skip | go_guarded | go_step | go_upon | go_back)
    refine hc.mono ?_
    rintro e w2 ⟨⟨z, rfl, hz⟩, k2⟩
    have KW := KW.trans k2 (fun _ h _ => h)
    have KX := KX.trans k2 (fun _ h _ => h)
    clear hc le0 le1 BL k2
    try dsimp only
    cases z with
    | false =>
     have hno := shut (hout.out (fun h => by have h2 := hz.2 (HP2.out.1 h).2; cases h2))
     clear HP HP2 hout hz
     repeat (first | go_values | go_skip | go_guarded | go_step | go_upon | go_back)
     go_ret
     exact tells_f hno.out KW
    | true =>
     have HT2 := shut (all_take HA.out HT.out (HP2.out.2 ⟨hz1, hz.1 rfl⟩))
     clear HP2 hout hz
     go_wp2_with fail
     go_roundw
     case rel => exact ⟨t + 1, by go_num, by omega, KX, HT2⟩
     case measure => simp [intOf]; omega
  ·obtain rfl : t = n := by omega
   have m1 : ¬ (t : Int) < t := by omega
   have HALL := shut (all_of_take HN.out HT.out)
   have HP : Shut (X ↔ isName a_name = true ∧ t ≤ 64 ∧ FldsP a_params true ∧ ResP a_result ∧ BlP a_body 1 ∧ IntKind.i64.wrap (cntL a_body : Int) ≤ 2000) := shut (HP.out.trans ⟨fun h => h.2, fun h => ⟨HALL.out, h⟩⟩)
   clear HALL HT
   have BA := BF
   have KW := KW.trans KL (fun _ h _ => h)
   clear BF KL
   have HR0 : Shut (ResP a_result ↔ (a_result.kind = 0 ∧ a_result.name = [] ∧ a_result.lives = [] ∧ a_result.elem = []) ∨ TyP a_result 1) := shut Iff.rfl
   obtain ⟨-, -, -, -, ⟨ae4, af4⟩, -, -⟩ := FunB al_result GCA.out BA
   have hk := ty_kind_cell ae4 af4 ah_result
   have hcn := nothing_any a_result wr s4 (ah_result.keeps KW (fun _ _ h => h) (fun _ h => h))
   by_cases k0 : a_result.kind = 0
   ·rw [k0] at hk
    go_wp2_with (fail)
    refine hcn.mono ?_
    rintro e w1 ⟨⟨z, rfl, hz⟩, k1⟩
    have KW := KW.trans k1 (fun _ h _ => h)
    have BA := k1.blk BA (fun h => h)
    clear hcn k1 hk ae4 af4
    cases z with
    | true =>
     have HR : Shut (ResP a_result ↔ true = true) := shut (by rw [HR0.out]; exact ⟨fun _ => rfl, fun _ => .inl ⟨k0, hz.1 rfl⟩⟩)
     clear HR0 hz
     go_upto_region 8 with fail
     try simp only [Bool.false_eq_true, ↓reduceIte]
     have hcn := lname_any w1 a_name (by unfold bigN at ah_name; omega)
     obtain ⟨zn, hzn⟩ : ∃ z, isName a_name = z := ⟨_, rfl⟩
     rw [hzn] at hcn
     obtain ⟨-, ae1, -, -, -, -, -⟩ := FunB al_result GCA.out BA
     unfold txV at *
     try dsimp only
     repeat (first | go_values | go_skip | go_guarded | go_step | go_upon | go_back)
     refine hcn.mono ?_
     rintro e wn ⟨rfl, rfl⟩
     clear hcn ae1
     try dsimp only
     cases zn with
     | false =>
      have hno : Shut (¬ X) := shut (fun h => by have h2 := (HP.out.1 h).1; rw [hzn] at h2; cases h2)
      clear HP
      repeat (first | simp only [Bool.false_eq_true, ↓reduceIte] | go_values | go_skip | go_guarded | go_step | go_upon | go_back)
      go_ret
      exact tells_f hno.out KW
     | true =>
      by_cases h64 : t ≤ 64
      rotate_left
      ·have m2 : ¬ (t : Int) ≤ 64 := by omega
       obtain ⟨-, -, ae2, -, -, -, -⟩ := FunB al_result GCA.out BA
       have hno : Shut (¬ X) := shut (fun h => by exact h64 (HP.out.1 h).2.1)
       clear HP
       repeat (first | simp only [Bool.false_eq_true, ↓reduceIte] | go_values | go_skip | go_guarded | go_step | go_upon | go_back)
       go_ret
       exact tells_f hno.out KW
      have m2 : (t : Int) ≤ 64 := by omega
      obtain ⟨-, -, ae2, ae3, -, -, -⟩ := FunB al_result GCA.out BA
      have hc := fields_any wn (HM.out.keeps KW) q3 true (ah_params.keeps KW (fun _ _ h => h) (fun _ h => h) (fun _ _ _ h => h.keeps KW (fun _ _ h => h) (fun _ h => h)))
      try dsimp only
      repeat (first | go_values | go_skip | go_guarded | go_step | go_upon | go_back)
      refine hc.mono ?_
      rintro e w5 ⟨⟨z5, rfl, hz5⟩, k5⟩
      have KW := KW.trans k5 (fun _ h _ => h)
      have BA := k5.blk BA (fun h => h)
      clear hc k5 ae2 ae3 m2
      try dsimp only
      cases z5 with
      | false =>
       have hno : Shut (¬ X) := shut (fun h => by have h2 := hz5.2 (HP.out.1 h).2.2.1; cases h2)
       clear HP
       repeat (first | simp only [Bool.false_eq_true, ↓reduceIte] | go_values | go_skip | go_guarded | go_step | go_upon | go_back)
       go_ret
       exact tells_f hno.out KW
      | true =>
       obtain ⟨-, -, -, -, -, ae8, -⟩ := FunB al_result GCA.out BA
       have hc := block_any a_body w5 (HM.out.keeps KW) 1 (by omega) (by omega) q8 (ah_body.keeps KW (fun _ _ h => h) (fun _ h => h) (fun _ _ _ h => h.keeps KW (fun _ _ h => h) (fun _ h => h)))
       try dsimp only
       repeat (first | go_values | go_skip | go_guarded | go_step | go_upon | go_back)
       refine hc.mono ?_
       rintro e w6 ⟨⟨z6, rfl, hz6⟩, k6⟩
       have KW := KW.trans k6 (fun _ h _ => h)
       have BA := k6.blk BA (fun h => h)
       clear hc k6 ae8
       try dsimp only
       cases z6 with
       | false =>
        have hno : Shut (¬ X) := shut (fun h => by have h2 := hz6.2 (HP.out.1 h).2.2.2.2.1; cases h2)
        clear HP
        repeat (first | simp only [Bool.false_eq_true, ↓reduceIte] | go_values | go_skip | go_guarded | go_step | go_upon | go_back)
        go_ret
        exact tells_f hno.out KW
       | true =>
        obtain ⟨-, -, -, -, -, ae8, -⟩ := FunB al_result GCA.out BA
        have hc := count_any (S := S) a_body w6 p8 q8 (ah_body.keeps KW (fun _ _ h => h) (fun _ h => h) (fun _ _ _ h => h.keeps KW (fun _ _ h => h) (fun _ h => h)))
        try dsimp only
        repeat (first | go_values | go_skip | go_guarded | go_step | go_upon | go_back)
        refine hc.mono ?_
        rintro e w7 ⟨⟨z7, rfl, hz7⟩, k7⟩
        have KW := KW.trans k7 (fun _ h _ => h)
        clear hc k7 ae8
        try dsimp only
        have hz : Shut (decide (z7 ≤ 2000) = true ↔ X) := shut (by
         rw [HP.out, decide_eq_true_iff, ← hz7.out]
         exact ⟨fun h => ⟨hzn, h64, hz5.1 rfl, HR.out.2 (by first | rfl | trivial), hz6.1 rfl, h⟩, fun h => h.2.2.2.2.2⟩)
        clear HP hz7 hz6 hz5
        repeat (first | go_values | go_skip | go_guarded | go_step | go_upon | go_back)
        go_ret
        exact tells_z hz.out KW
    | false =>
     obtain ⟨-, -, -, -, ⟨ae4, af4⟩, -, -⟩ := FunB al_result GCA.out BA
     have hc := kind_any a_result w1 s4 1 (HM.out.keeps KW) (by omega) (by omega) (ah_result.keeps KW (fun _ _ h => h) (fun _ h => h))
     try dsimp only
     repeat (first | go_values | go_skip | go_guarded | go_step | go_upon | go_back)
     refine hc.mono ?_
     rintro e w2 ⟨⟨z2, rfl, hz2⟩, k2⟩
     have KW := KW.trans k2 (fun _ h _ => h)
     have BA := k2.blk BA (fun h => h)
     clear hc k2 ae4 af4
     try dsimp only
     have HR : Shut (ResP a_result ↔ z2 = true) := shut (by rw [HR0.out, hz2]; exact ⟨fun h => h.elim (fun h => absurd (hz.2 h.2) (by decide)) id, fun h => .inr h⟩)
     clear HR0 hz hz2
     go_upto_region 8 with fail
     try simp only [Bool.false_eq_true, ↓reduceIte]
     cases z2 with
     | true =>
      have hcn := lname_any w2 a_name (by unfold bigN at ah_name; omega)
      obtain ⟨zn, hzn⟩ : ∃ z, isName a_name = z := ⟨_, rfl⟩
      rw [hzn] at hcn
      obtain ⟨-, ae1, -, -, -, -, -⟩ := FunB al_result GCA.out BA
      unfold txV at *
      try dsimp only
      repeat (first | go_values | go_skip | go_guarded | go_step | go_upon | go_back)
      refine hcn.mono ?_
      rintro e wn ⟨rfl, rfl⟩
      clear hcn ae1
      try dsimp only
      cases zn with
      | false =>
       have hno : Shut (¬ X) := shut (fun h => by have h2 := (HP.out.1 h).1; rw [hzn] at h2; cases h2)
       clear HP
       repeat (first | simp only [Bool.false_eq_true, ↓reduceIte] | go_values | go_skip | go_guarded | go_step | go_upon | go_back)
       go_ret
       exact tells_f hno.out KW
      | true =>
       by_cases h64 : t ≤ 64
       rotate_left
       ·have m2 : ¬ (t : Int) ≤ 64 := by omega
        obtain ⟨-, -, ae2, -, -, -, -⟩ := FunB al_result GCA.out BA
        have hno : Shut (¬ X) := shut (fun h => by exact h64 (HP.out.1 h).2.1)
        clear HP
        repeat (first | simp only [Bool.false_eq_true, ↓reduceIte] | go_values | go_skip | go_guarded | go_step | go_upon | go_back)
        go_ret
        exact tells_f hno.out KW
       have m2 : (t : Int) ≤ 64 := by omega
       obtain ⟨-, -, ae2, ae3, -, -, -⟩ := FunB al_result GCA.out BA
       have hc := fields_any wn (HM.out.keeps KW) q3 true (ah_params.keeps KW (fun _ _ h => h) (fun _ h => h) (fun _ _ _ h => h.keeps KW (fun _ _ h => h) (fun _ h => h)))
       try dsimp only
       repeat (first | go_values | go_skip | go_guarded | go_step | go_upon | go_back)
       refine hc.mono ?_
       rintro e w5 ⟨⟨z5, rfl, hz5⟩, k5⟩
       have KW := KW.trans k5 (fun _ h _ => h)
       have BA := k5.blk BA (fun h => h)
       clear hc k5 ae2 ae3 m2
       try dsimp only
       cases z5 with
       | false =>
        have hno : Shut (¬ X) := shut (fun h => by have h2 := hz5.2 (HP.out.1 h).2.2.1; cases h2)
        clear HP
        repeat (first | simp only [Bool.false_eq_true, ↓reduceIte] | go_values | go_skip | go_guarded | go_step | go_upon | go_back)
        go_ret
        exact tells_f hno.out KW
       | true =>
        obtain ⟨-, -, -, -, -, ae8, -⟩ := FunB al_result GCA.out BA
        have hc := block_any a_body w5 (HM.out.keeps KW) 1 (by omega) (by omega) q8 (ah_body.keeps KW (fun _ _ h => h) (fun _ h => h) (fun _ _ _ h => h.keeps KW (fun _ _ h => h) (fun _ h => h)))
        try dsimp only
        repeat (first | go_values | go_skip | go_guarded | go_step | go_upon | go_back)
        refine hc.mono ?_
        rintro e w6 ⟨⟨z6, rfl, hz6⟩, k6⟩
        have KW := KW.trans k6 (fun _ h _ => h)
        have BA := k6.blk BA (fun h => h)
        clear hc k6 ae8
        try dsimp only
        cases z6 with
        | false =>
         have hno : Shut (¬ X) := shut (fun h => by have h2 := hz6.2 (HP.out.1 h).2.2.2.2.1; cases h2)
         clear HP
         repeat (first | simp only [Bool.false_eq_true, ↓reduceIte] | go_values | go_skip | go_guarded | go_step | go_upon | go_back)
         go_ret
         exact tells_f hno.out KW
        | true =>
         obtain ⟨-, -, -, -, -, ae8, -⟩ := FunB al_result GCA.out BA
         have hc := count_any (S := S) a_body w6 p8 q8 (ah_body.keeps KW (fun _ _ h => h) (fun _ h => h) (fun _ _ _ h => h.keeps KW (fun _ _ h => h) (fun _ h => h)))
         try dsimp only
         repeat (first | go_values | go_skip | go_guarded | go_step | go_upon | go_back)
         refine hc.mono ?_
         rintro e w7 ⟨⟨z7, rfl, hz7⟩, k7⟩
         have KW := KW.trans k7 (fun _ h _ => h)
         clear hc k7 ae8
         try dsimp only
         have hz : Shut (decide (z7 ≤ 2000) = true ↔ X) := shut (by
          rw [HP.out, decide_eq_true_iff, ← hz7.out]
          exact ⟨fun h => ⟨hzn, h64, hz5.1 rfl, HR.out.2 (by first | rfl | trivial), hz6.1 rfl, h⟩, fun h => h.2.2.2.2.2⟩)
         clear HP hz7 hz6 hz5
         repeat (first | go_values | go_skip | go_guarded | go_step | go_upon | go_back)
         go_ret
         exact tells_z hz.out KW
     | false =>
      have hcn := lname_any w2 a_name (by unfold bigN at ah_name; omega)
      obtain ⟨zn, hzn⟩ : ∃ z, isName a_name = z := ⟨_, rfl⟩
      rw [hzn] at hcn
      obtain ⟨-, ae1, -, -, -, -, -⟩ := FunB al_result GCA.out BA
      unfold txV at *
      try dsimp only
      repeat (first | go_values | go_skip | go_guarded | go_step | go_upon | go_back)
      refine hcn.mono ?_
      rintro e wn ⟨rfl, rfl⟩
      clear hcn ae1
      try dsimp only
      cases zn with
      | false =>
       have hno : Shut (¬ X) := shut (fun h => by have h2 := (HP.out.1 h).1; rw [hzn] at h2; cases h2)
       clear HP
       repeat (first | simp only [Bool.false_eq_true, ↓reduceIte] | go_values | go_skip | go_guarded | go_step | go_upon | go_back)
       go_ret
       exact tells_f hno.out KW
      | true =>
       by_cases h64 : t ≤ 64
       rotate_left
       ·have m2 : ¬ (t : Int) ≤ 64 := by omega
        obtain ⟨-, -, ae2, -, -, -, -⟩ := FunB al_result GCA.out BA
        have hno : Shut (¬ X) := shut (fun h => by exact h64 (HP.out.1 h).2.1)
        clear HP
        repeat (first | simp only [Bool.false_eq_true, ↓reduceIte] | go_values | go_skip | go_guarded | go_step | go_upon | go_back)
        go_ret
        exact tells_f hno.out KW
       have m2 : (t : Int) ≤ 64 := by omega
       obtain ⟨-, -, ae2, ae3, -, -, -⟩ := FunB al_result GCA.out BA
       have hc := fields_any wn (HM.out.keeps KW) q3 true (ah_params.keeps KW (fun _ _ h => h) (fun _ h => h) (fun _ _ _ h => h.keeps KW (fun _ _ h => h) (fun _ h => h)))
       try dsimp only
       repeat (first | go_values | go_skip | go_guarded | go_step | go_upon | go_back)
       refine hc.mono ?_
       rintro e w5 ⟨⟨z5, rfl, hz5⟩, k5⟩
       have KW := KW.trans k5 (fun _ h _ => h)
       have BA := k5.blk BA (fun h => h)
       clear hc k5 ae2 ae3 m2
       try dsimp only
       cases z5 with
       | false =>
        have hno : Shut (¬ X) := shut (fun h => by have h2 := hz5.2 (HP.out.1 h).2.2.1; cases h2)
        clear HP
        repeat (first | simp only [Bool.false_eq_true, ↓reduceIte] | go_values | go_skip | go_guarded | go_step | go_upon | go_back)
        go_ret
        exact tells_f hno.out KW
       | true =>
        have hno : Shut (¬ X) := shut (fun h => by have h2 := HR.out.1 (HP.out.1 h).2.2.2.1; cases h2)
        clear HP
        repeat (first | simp only [Bool.false_eq_true, ↓reduceIte] | go_values | go_skip | go_guarded | go_step | go_upon | go_back)
        go_ret
        exact tells_f hno.out KW
   ·have hkb : (a_result.kind == 0) = false := by rw [beq_eq_false_iff_ne]; exact k0
    clear hcn
    have hc := kind_any a_result wr s4 1 (HM.out.keeps KW) (by omega) (by omega) (ah_result.keeps KW (fun _ _ h => h) (fun _ h => h))
    try dsimp only
    repeat (first | go_values | go_skip | go_guarded | go_step | go_upon | go_back)
    refine hc.mono ?_
    rintro e w2 ⟨⟨z2, rfl, hz2⟩, k2⟩
    have KW := KW.trans k2 (fun _ h _ => h)
    have BA := k2.blk BA (fun h => h)
    clear hc k2 ae4 af4 hk hkb
    try dsimp only
    have HR : Shut (ResP a_result ↔ z2 = true) := shut (by rw [HR0.out, hz2]; exact ⟨fun h => h.elim (fun h => absurd h.1 k0) id, fun h => .inr h⟩)
    clear HR0 hz2
    go_upto_region 8 with fail
    try simp only [Bool.false_eq_true, ↓reduceIte]
    cases z2 with
    | true =>
     have hcn := lname_any w2 a_name (by unfold bigN at ah_name; omega)
     obtain ⟨zn, hzn⟩ : ∃ z, isName a_name = z := ⟨_, rfl⟩
     rw [hzn] at hcn
     obtain ⟨-, ae1, -, -, -, -, -⟩ := FunB al_result GCA.out BA
     unfold txV at *
     try dsimp only
     repeat (first | go_values | go_skip | go_guarded | go_step | go_upon | go_back)
     refine hcn.mono ?_
     rintro e wn ⟨rfl, rfl⟩
     clear hcn ae1
     try dsimp only
     cases zn with
     | false =>
      have hno : Shut (¬ X) := shut (fun h => by have h2 := (HP.out.1 h).1; rw [hzn] at h2; cases h2)
      clear HP
      repeat (first | simp only [Bool.false_eq_true, ↓reduceIte] | go_values | go_skip | go_guarded | go_step | go_upon | go_back)
      go_ret
      exact tells_f hno.out KW
     | true =>
      by_cases h64 : t ≤ 64
      rotate_left
      ·have m2 : ¬ (t : Int) ≤ 64 := by omega
       obtain ⟨-, -, ae2, -, -, -, -⟩ := FunB al_result GCA.out BA
       have hno : Shut (¬ X) := shut (fun h => by exact h64 (HP.out.1 h).2.1)
       clear HP
       repeat (first | simp only [Bool.false_eq_true, ↓reduceIte] | go_values | go_skip | go_guarded | go_step | go_upon | go_back)
       go_ret
       exact tells_f hno.out KW
      have m2 : (t : Int) ≤ 64 := by omega
      obtain ⟨-, -, ae2, ae3, -, -, -⟩ := FunB al_result GCA.out BA
      have hc := fields_any wn (HM.out.keeps KW) q3 true (ah_params.keeps KW (fun _ _ h => h) (fun _ h => h) (fun _ _ _ h => h.keeps KW (fun _ _ h => h) (fun _ h => h)))
      try dsimp only
      repeat (first | go_values | go_skip | go_guarded | go_step | go_upon | go_back)
      refine hc.mono ?_
      rintro e w5 ⟨⟨z5, rfl, hz5⟩, k5⟩
      have KW := KW.trans k5 (fun _ h _ => h)
      have BA := k5.blk BA (fun h => h)
      clear hc k5 ae2 ae3 m2
      try dsimp only
      cases z5 with
      | false =>
       have hno : Shut (¬ X) := shut (fun h => by have h2 := hz5.2 (HP.out.1 h).2.2.1; cases h2)
       clear HP
       repeat (first | simp only [Bool.false_eq_true, ↓reduceIte] | go_values | go_skip | go_guarded | go_step | go_upon | go_back)
       go_ret
       exact tells_f hno.out KW
      | true =>
       obtain ⟨-, -, -, -, -, ae8, -⟩ := FunB al_result GCA.out BA
       have hc := block_any a_body w5 (HM.out.keeps KW) 1 (by omega) (by omega) q8 (ah_body.keeps KW (fun _ _ h => h) (fun _ h => h) (fun _ _ _ h => h.keeps KW (fun _ _ h => h) (fun _ h => h)))
       try dsimp only
       repeat (first | go_values | go_skip | go_guarded | go_step | go_upon | go_back)
       refine hc.mono ?_
       rintro e w6 ⟨⟨z6, rfl, hz6⟩, k6⟩
       have KW := KW.trans k6 (fun _ h _ => h)
       have BA := k6.blk BA (fun h => h)
       clear hc k6 ae8
       try dsimp only
       cases z6 with
       | false =>
        have hno : Shut (¬ X) := shut (fun h => by have h2 := hz6.2 (HP.out.1 h).2.2.2.2.1; cases h2)
        clear HP
        repeat (first | simp only [Bool.false_eq_true, ↓reduceIte] | go_values | go_skip | go_guarded | go_step | go_upon | go_back)
        go_ret
        exact tells_f hno.out KW
       | true =>
        obtain ⟨-, -, -, -, -, ae8, -⟩ := FunB al_result GCA.out BA
        have hc := count_any (S := S) a_body w6 p8 q8 (ah_body.keeps KW (fun _ _ h => h) (fun _ h => h) (fun _ _ _ h => h.keeps KW (fun _ _ h => h) (fun _ h => h)))
        try dsimp only
        repeat (first | go_values | go_skip | go_guarded | go_step | go_upon | go_back)
        refine hc.mono ?_
        rintro e w7 ⟨⟨z7, rfl, hz7⟩, k7⟩
        have KW := KW.trans k7 (fun _ h _ => h)
        clear hc k7 ae8
        try dsimp only
        have hz : Shut (decide (z7 ≤ 2000) = true ↔ X) := shut (by
         rw [HP.out, decide_eq_true_iff, ← hz7.out]
         exact ⟨fun h => ⟨hzn, h64, hz5.1 rfl, HR.out.2 (by first | rfl | trivial), hz6.1 rfl, h⟩, fun h => h.2.2.2.2.2⟩)
        clear HP hz7 hz6 hz5
        repeat (first | go_values | go_skip | go_guarded | go_step | go_upon | go_back)
        go_ret
        exact tells_z hz.out KW
    | false =>
     have hcn := lname_any w2 a_name (by unfold bigN at ah_name; omega)
     obtain ⟨zn, hzn⟩ : ∃ z, isName a_name = z := ⟨_, rfl⟩
     rw [hzn] at hcn
     obtain ⟨-, ae1, -, -, -, -, -⟩ := FunB al_result GCA.out BA
     unfold txV at *
     try dsimp only
     repeat (first | go_values | go_skip | go_guarded | go_step | go_upon | go_back)
     refine hcn.mono ?_
     rintro e wn ⟨rfl, rfl⟩
     clear hcn ae1
     try dsimp only
     cases zn with
     | false =>
      have hno : Shut (¬ X) := shut (fun h => by have h2 := (HP.out.1 h).1; rw [hzn] at h2; cases h2)
      clear HP
      repeat (first | simp only [Bool.false_eq_true, ↓reduceIte] | go_values | go_skip | go_guarded | go_step | go_upon | go_back)
      go_ret
      exact tells_f hno.out KW
     | true =>
      by_cases h64 : t ≤ 64
      rotate_left
      ·have m2 : ¬ (t : Int) ≤ 64 := by omega
       obtain ⟨-, -, ae2, -, -, -, -⟩ := FunB al_result GCA.out BA
       have hno : Shut (¬ X) := shut (fun h => by exact h64 (HP.out.1 h).2.1)
       clear HP
       repeat (first | simp only [Bool.false_eq_true, ↓reduceIte] | go_values | go_skip | go_guarded | go_step | go_upon | go_back)
       go_ret
       exact tells_f hno.out KW
      have m2 : (t : Int) ≤ 64 := by omega
      obtain ⟨-, -, ae2, ae3, -, -, -⟩ := FunB al_result GCA.out BA
      have hc := fields_any wn (HM.out.keeps KW) q3 true (ah_params.keeps KW (fun _ _ h => h) (fun _ h => h) (fun _ _ _ h => h.keeps KW (fun _ _ h => h) (fun _ h => h)))
      try dsimp only
      repeat (first | go_values | go_skip | go_guarded | go_step | go_upon | go_back)
      refine hc.mono ?_
      rintro e w5 ⟨⟨z5, rfl, hz5⟩, k5⟩
      have KW := KW.trans k5 (fun _ h _ => h)
      have BA := k5.blk BA (fun h => h)
      clear hc k5 ae2 ae3 m2
      try dsimp only
      cases z5 with
      | false =>
       have hno : Shut (¬ X) := shut (fun h => by have h2 := hz5.2 (HP.out.1 h).2.2.1; cases h2)
       clear HP
       repeat (first | simp only [Bool.false_eq_true, ↓reduceIte] | go_values | go_skip | go_guarded | go_step | go_upon | go_back)
       go_ret
       exact tells_f hno.out KW
      | true =>
       have hno : Shut (¬ X) := shut (fun h => by have h2 := HR.out.1 (HP.out.1 h).2.2.2.1; cases h2)
       clear HP
       repeat (first | simp only [Bool.false_eq_true, ↓reduceIte] | go_values | go_skip | go_guarded | go_step | go_upon | go_back)
       go_ret
       exact tells_f hno.out KW
end Go.Proofs.YtjbcagbnagefcaaGreat
namespace Go.Proofs.YtjbcagbnagefcaaGreat
open Go.RowKit
attribute [local go_sem ↓] exec_mid_ty exec_store_ty exec_mid_pl exec_store_pl exec_mid_opr exec_store_opr exec_mid_val exec_store_val exec_mid_st exec_store_st exec_mid_fld exec_store_fld exec_mid_str exec_store_str exec_mid_lif exec_store_lif exec_mid_fun exec_store_fun exec_mid_cr exec_store_cr
attribute [local go_sem] rowOk_new World.setRow_alloc_new
def CrP (c : CrD) : Prop := c.structs.length + c.funcs.length ≤ 256 ∧ (∀ s ∈ c.structs, StrP s) ∧ (∀ f ∈ c.funcs, FunP f)
set_option maxRecDepth 100000 in
set_option maxHeartbeats 8000000 in
theorem may_any {S : Nat → Prop} (a : CrD) (w : World) (hM : MaxV w) (cs : List Value) (ha : CrIs S w a cs) : Calls Tryz.prog 61 #[.agg cs.toArray] w (Tells w (CrP a)) := by
 obtain ⟨a_structs, a_funcs⟩ := a
 have HP : Shut (CrP ⟨a_structs, a_funcs⟩ ↔ a_structs.length + a_funcs.length ≤ 256 ∧ (∀ s ∈ a_structs, StrP s) ∧ (∀ f ∈ a_funcs, FunP f)) := shut Iff.rfl
 obtain ⟨X, hX⟩ : ∃ X, X = CrP ⟨a_structs, a_funcs⟩ := ⟨_, rfl⟩
 rw [← hX] at HP ⊢
 clear hX
 have HM := shut hM
 clear hM
 have ag1 := agg_ok ha.len ha.one
 obtain ⟨p0, q0, p1, q1, hcs, ah_structs, ah_funcs⟩ := ha
 have HCA := shut hcs
 clear hcs
 simp only at ah_structs ah_funcs HCA
 obtain ⟨CA, hCA⟩ : ∃ C, C = cs.toArray := ⟨_, rfl⟩
 rw [← hCA] at ag1 ⊢
 rw [HCA.out] at hCA
 have GCA := shut hCA
 clear hCA HCA
 have KW : Keeps Nothing w (w.alloc (.cells CA 26)) := (Keeps.refl Nothing w).alloc _
 have BA := blk_new w CA 26
 go_enter Tryz.func61, Tryz.ntmps61
 go_upto_region 1 with fail
 clear ag1
 generalize w.heap.size = ga at *
 generalize w.alloc (.cells CA 26) = wb at *
 obtain ⟨n, hn⟩ : ∃ n, a_structs.length = n := ⟨_, rfl⟩
 have hnb : n ≤ bigN := by rw [← hn]; exact ah_structs.1
 obtain ⟨m, hm⟩ : ∃ m, a_funcs.length = m := ⟨_, rfl⟩
 have hmb : m ≤ bigN := by rw [← hm]; exact ah_funcs.1
 unfold bigN at hnb hmb
 rw [hn, hm] at GCA HP
 have Hn := shut hn
 have Hm := shut hm
 clear hn hm
 obtain ⟨ae0, ae1⟩ := CrB  GCA.out BA
 by_cases h256 : n + m ≤ 256
 rotate_left
 ·have m2 : 256 < (n : Int) + m := by omega
  have hno : Shut (¬ X) := shut (fun h => h256 (HP.out.1 h).1)
  clear HP
  go_wp2_with fail
  go_ret
  exact tells_f hno.out KW
 have m2 : ¬ 256 < (n : Int) + m := by omega
 have HP1 : Shut (X ↔ (∀ s ∈ a_structs, StrP s) ∧ (∀ f ∈ a_funcs, FunP f)) := shut (HP.out.trans ⟨fun h => h.2, fun h => ⟨h256, h⟩⟩)
 clear HP
 go_wp2_with fail
 clear m2 h256
 clear ae0 ae1
 go_loopw [4, 18] (fun sb si wx => ∃ t : Nat, si = .int .i64 t ∧ t ≤ n ∧ Keeps Nothing wb wx ∧ Shut (∀ l ∈ a_structs.take t, StrP l)) (fun _ si _ => n - (intOf si).toNat)
 case atStart => exact ⟨0, rfl, Nat.zero_le _, Keeps.refl _ _, shut (by simp)⟩
 case round =>
  obtain ⟨t, rfl, ht, KL, HT⟩ := hrel
  by_cases hlt : t < n
  ·obtain ⟨a, ha⟩ : ∃ a, a_structs[t]? = some a := ⟨_, List.getElem?_eq_getElem (by rw [Hn.out]; exact hlt)⟩
   have KW0 := KW.trans KL (fun _ h _ => h)
   obtain ⟨g1, o1, rfl, -, cs2, l1, r1, hi⟩ := (ah_structs.keeps KW0 (fun _ _ h => h) (fun _ h => h) (fun _ _ _ h => h.keeps KW0 (fun _ _ h => h) (fun _ h => h))).get ha
   have HA := shut ha
   clear ha
   have m0 : (0 : Int) ≤ t := by omega
   have m1 : (t : Int) < n := by omega
   have ag1 := agg_ok l1 hi.one
   obtain ⟨CB, hC2⟩ : ∃ C, C = cs2.toArray := ⟨_, rfl⟩
   obtain ⟨hk, ho⟩ := sub_of r1 l1
   have hsz : CB.size = 5 := by rw [hC2]; simpa using l1
   rw [← hC2] at ag1 ho
   have HC2 := shut hC2
   clear hC2 r1 l1
   go_upto_region 6 with fail
   have ka : Keeps Nothing wr (wr.alloc (.cells CB 49)) := (Keeps.refl Nothing wr).alloc _
   have BL := blk_new wr CB 49
   have KX := KL.trans ka (fun _ h _ => h)
   have hi := hi.keeps ka (fun _ _ h => h) (fun _ h => h)
   clear hk ho ag1 ka
   generalize wr.heap.size = gl at *
   generalize wr.alloc (.cells CB 49) = wl at *
   have KW := KW.trans KX (fun _ h _ => h)
   have hc := strukt_any a wl (HM.out.keeps KW)  cs2 hi
   rw [← HC2.out] at hc
   obtain ⟨y1, y2⟩ := tblk_mid BL hsz
   clear hi
   repeat (first | go_values | go_skip | go_guarded | go_step | go_upon | go_back)
   refine hc.mono ?_
   rintro e w1 ⟨⟨z, rfl, hz⟩, k1⟩
   have KW := KW.trans k1 (fun _ h _ => h)
   have KX := KX.trans k1 (fun _ h _ => h)
   clear hc y1 y2 BL k1
   try dsimp only
   cases z with
   | true =>
    have HT2 := shut (all_take HA.out HT.out (hz.1 rfl))
    clear hz
    go_wp2_with fail
    go_roundw
    case rel => exact ⟨t + 1, by go_num, by omega, KX, HT2⟩
    case measure => simp [intOf]; omega
   | false =>
    have hno : Shut (¬ X) := shut (fun h => by have h2 := hz.2 ((HP1.out.1 h).1 a (List.mem_of_getElem? HA.out)); cases h2)
    clear hz HP1
    go_wp2_with fail
    go_ret
    exact tells_f hno.out KW
  ·obtain rfl : t = n := by omega
   have m1 : ¬ (t : Int) < t := by omega
   have HALL := shut (all_of_take Hn.out HT.out)
   have HP2 : Shut (X ↔ ∀ f ∈ a_funcs, FunP f) := shut (HP1.out.trans ⟨fun h => h.2, fun h => ⟨HALL.out, h⟩⟩)
   clear HP1
   have KW := KW.trans KL (fun _ h _ => h)
   have BA := KL.blk BA (fun h => h)
   clear HALL HT KL
   obtain ⟨-, ae1⟩ := CrB  GCA.out BA
   go_wp2_with fail
   clear m1 ae1
   go_loopw [6, 29] (fun sb si wy => ∃ t : Nat, si = .int .i64 t ∧ t ≤ m ∧ Keeps Nothing wr wy ∧ Shut (∀ l ∈ a_funcs.take t, FunP l)) (fun _ si _ => m - (intOf si).toNat)
   case atStart => exact ⟨0, rfl, Nat.zero_le _, Keeps.refl _ _, shut (by simp)⟩
   case round =>
    obtain ⟨t, rfl, ht, KL, HT⟩ := hrel
    by_cases hlt : t < m
    ·obtain ⟨a, ha⟩ : ∃ a, a_funcs[t]? = some a := ⟨_, List.getElem?_eq_getElem (by rw [Hm.out]; exact hlt)⟩
     have KW0 := KW.trans KL (fun _ h _ => h)
     obtain ⟨g1, o1, rfl, -, cs2, l1, r1, hi⟩ := (ah_funcs.keeps KW0 (fun _ _ h => h) (fun _ h => h) (fun _ _ _ h => h.keeps KW0 (fun _ _ h => h) (fun _ h => h))).get ha
     have HA := shut ha
     clear ha
     have m0 : (0 : Int) ≤ t := by omega
     have m1 : (t : Int) < m := by omega
     have ag1 := agg_ok l1 hi.one
     obtain ⟨CB, hC2⟩ : ∃ C, C = cs2.toArray := ⟨_, rfl⟩
     obtain ⟨hk, ho⟩ := sub_of r1 l1
     have hsz : CB.size = 10 := by rw [hC2]; simpa using l1
     rw [← hC2] at ag1 ho
     have HC2 := shut hC2
     clear hC2 r1 l1
     go_upto_region 12 with fail
     have ka : Keeps Nothing wr (wr.alloc (.cells CB 56)) := (Keeps.refl Nothing wr).alloc _
     have BL := blk_new wr CB 56
     have KX := KL.trans ka (fun _ h _ => h)
     have hi := hi.keeps ka (fun _ _ h => h) (fun _ h => h)
     clear hk ho ag1 ka
     generalize wr.heap.size = gl at *
     generalize wr.alloc (.cells CB 56) = wl at *
     have KW := KW.trans KX (fun _ h _ => h)
     have hc := function_any a wl (HM.out.keeps KW)  cs2 hi
     rw [← HC2.out] at hc
     obtain ⟨y1, y2⟩ := tblk_mid BL hsz
     clear hi
     repeat (first | go_values | go_skip | go_guarded | go_step | go_upon | go_back)
     refine hc.mono ?_
     rintro e w1 ⟨⟨z, rfl, hz⟩, k1⟩
     have KW := KW.trans k1 (fun _ h _ => h)
     have KX := KX.trans k1 (fun _ h _ => h)
     clear hc y1 y2 BL k1
     try dsimp only
     cases z with
     | true =>
      have HT2 := shut (all_take HA.out HT.out (hz.1 rfl))
      clear hz
      go_wp2_with fail
      go_roundw
      case rel => exact ⟨t + 1, by go_num, by omega, KX, HT2⟩
      case measure => simp [intOf]; omega
     | false =>
      have hno : Shut (¬ X) := shut (fun h => by have h2 := hz.2 (HP2.out.1 h a (List.mem_of_getElem? HA.out)); cases h2)
      clear hz HP2
      go_wp2_with fail
      go_ret
      exact tells_f hno.out KW
    ·obtain rfl : t = m := by omega
     have m1 : ¬ (t : Int) < t := by omega
     have hy := shut (HP2.out.2 (all_of_take Hm.out HT.out))
     clear HP2
     go_wp2_with fail
     go_ret
     exact tells_t hy.out (KW.trans KL (fun _ h _ => h))
end Go.Proofs.YtjbcagbnagefcaaGreat
namespace Go.Proofs.YtjbcagbnagefcaaGreat
open Go.RowKit
section
variable {α : Type} {Z : World → Nat → Prop} {e : TypeId} {k : Nat} {P : (Nat → Prop) → World → α → List Value → Prop} {M g : Nat} {w w' : World} {ao : Option Addr} {cap : Nat} {out : List α}
theorem slIs_one {S : Nat → Prop} {C : Array Value} {cs : List Value} {d : α} {Q : α → List Value → Prop} (hC : C = cs.toArray) (hl : cs.length = k) (hb : Blk w g C e) (hS : S g) (hd : Q d cs) : SlIs S w k Q (some ⟨g, 0, none⟩) [d] :=
 ⟨by simp [bigN], .inr ⟨g, 0, rfl, hS, ⟨cs, hl, by subst hC; exact rangeAt_blk hb, hd⟩, trivial⟩⟩
end
section
variable {α β : Type} {S : Nat → Prop} {e e2 : TypeId} {k k2 : Nat} {P : (Nat → Prop) → World → α → List Value → Prop} {P2 : (Nat → Prop) → World → β → List Value → Prop} {N : Nat} {w w' : World} {ao a2 : Option Addr} {cap cap2 : Nat} {out : List α} {out2 : List β}
end
section
variable {S : Nat → Prop} {g5 g6 g7 : Nat} {f : FunD} {w : World}
end
theorem wpList_v {P : Program} {ops : Array Oper} {rest : List Oper} {o : Oper} {a : Act} {w : World} {Q : Exit → Act → World → Prop} (hgd : o.guard = none) (v : Value) (hv : (execOp a.eval o).run P w = .ok (.value v) w) (h : wpList P ops Q rest (a.put o.dst v) w) : wpList P ops Q (o :: rest) a w := by
 refine wpList_plain hgd fun K hK => ?_
 unfold Oper.wp
 rw [hv]
 exact hK _ _ h
section
variable {ops : Array Oper} {rest : List Oper} {a : Act} {w : World} {Q : Exit → Act → World → Prop} {dst : Option Tmp} {ty' : TypeId} {pos : String} {af : Array Edge}
end
end Go.Proofs.YtjbcagbnagefcaaGreat
namespace Go.Proofs.YtjbcagbnagefcaaGreat
open Go Go.RowKit
inductive PlanJ (α : Type) where
 | done : PlanJ α
 | take : α → PlanJ α → PlanJ α
 | one : α → PlanJ α → PlanJ α
 | two : α → α → PlanJ α → PlanJ α → PlanJ α
 | join : PlanJ α → PlanJ α → PlanJ α
def PlanJ.map {α β : Type} (f : α → β) : PlanJ α → PlanJ β
 | .done => .done
 | .take i r => .take (f i) (r.map f)
 | .one i r => .one (f i) (r.map f)
 | .two i j r s => .two (f i) (f j) (r.map f) (s.map f)
 | .join p r => .join (p.map f) (r.map f)
abbrev ItemJ := PlanJ (Bool × Oper)
def itemsJ (ops : List Oper) (k : Nat) (p : PlanJ Nat) : ItemJ := p.map fun i => (i == k, ops.getD i default)
def PlanJ.count : PlanJ Nat → Option Nat
 | .done => some 0
 | .take _ r => r.count.map (· + 1)
 | .one _ r => r.count.map (· + 1)
 | .two _ _ r s => match r.count, s.count with | some a, some b => if a = b then some (a + 1) else none | _, _ => none
 | .join p r => match p.count, r.count with | some a, some b => some (a + b) | _, _ => none
section
variable {P : Program} {Q : Exit → Act → World → Prop} {S : World → Prop}
def wpMixJ (P : Program) (ops : Array Oper) (S : World → Prop) (Q : Exit → Act → World → Prop) : ItemJ → (Act → World → Prop) → Act → World → Prop
 | .done, K, a, w => K a w
 | .take o r, K, a, w => if Region.wanted o.2 (yielded ops a.tmps) = true then ∃ v, (∀ W, S W → (execOp a.eval o.2).run P W = .ok (.value v) W) ∧ wpMixJ P ops S Q r K (a.put o.2.dst v) w else wpMixJ P ops S Q r K (a.put o.2.dst undef) w
 | .one o r, K, a, w => wpList P ops (Exit.then (fun a' w' => (o.1 = true ∨ S w') ∧ wpMixJ P ops S Q r K a' w') (noP Q)) [o.2] a w
 | .two o u r s, K, a, w => wpList P ops (Exit.then (fun a' w' => (o.1 = true ∨ S w') ∧ wpMixJ P ops S Q r K a' w') (noP Q)) [o.2] a w ∧ wpList P ops (Exit.then (fun a' w' => (u.1 = true ∨ S w') ∧ wpMixJ P ops S Q s K a' w') (noP Q)) [u.2] a w
 | .join p r, K, a, w => wpMixJ P ops S Q p (fun a' w' => wpMixJ P ops S Q r K a' w') a w
def mixJ (ops : Array Oper) (k : Nat) : Bool → PlanJ Nat → Array Bool → Option (Array Bool)
 | _, .done, listed => some listed
 | z, .take i r, listed => if (decide (i < ops.size) && (Region.ready .any ops listed).contains i && Region.free .any ops listed i && waitsB ops k i) = true then mixJ ops k z r (listed.setIfInBounds i true) else none
 | z, .one i r, listed => if (decide (i < ops.size) && decide (Region.ready .any ops listed = [i]) && (!(i == k) || (z && decide (r.count = some 0)))) = true then mixJ ops k z r (listed.setIfInBounds i true) else none
 | z, .two i j r s, listed => if (decide (i < ops.size) && decide (j < ops.size) && decide (Region.ready .any ops listed = [i, j]) && !(i == k) && !(j == k)) = true then
   match mixJ ops k z r (listed.setIfInBounds i true), mixJ ops k z s (listed.setIfInBounds j true) with
   | some a, some b => if a = b then some a else none
   | _, _ => none
  else none
 | z, .join p r, listed => match mixJ ops k false p listed with | some l => mixJ ops k z r l | none => none
theorem noP_normal {a : Act} {w : World} (h : Q .normal a w) : noP Q .normal a w := h
theorem wpList_monoJ {ops : Array Oper} {o : Oper} {a : Act} {w : World} {K K' : Act → World → Prop} {R : Exit → Act → World → Prop} (hK : ∀ a w, K a w → K' a w) (h : wpList P ops (Exit.then K (noP R)) [o] a w) : wpList P ops (Exit.then K' (noP R)) [o] a w := by
 unfold wpList at h ⊢
 by_cases hw : Region.wanted o (yielded ops a.tmps) = true
 ·rw [if_pos hw] at h ⊢
  rcases h with h | ⟨h1, h2⟩
  ·refine .inl (oper_wp_mono (fun a w h => ?_) (fun c a w h => h) (fun h => ?_) h)
   ·unfold wpList at h ⊢
    exact hK _ _ h
   ·obtain ⟨a, w, h⟩ := h; exact ⟨a, w, h⟩
  ·obtain ⟨a, w, h⟩ := h2
   exact .inr ⟨h1, a, w, h⟩
 ·rw [if_neg hw] at h ⊢
  unfold wpList at h ⊢
  exact hK _ _ h
theorem oneJ_sound {l : List Oper} {k i n : Nat} {listed : Array Bool} {a : Act} {w : World} {K : Act → World → Prop} (hk : l.toArray[i]? = some (l.getD i default))
  (ih : ∀ a w, S w ∨ i = k → K a w → wpTo P l.toArray (noP Q) S k n (listed.setIfInBounds i true) a w)
  (h : wpList P l.toArray (Exit.then (fun a' w' => ((i == k) = true ∨ S w') ∧ K a' w') (noP Q)) [l.getD i default] a w) :
  wpOp P l.toArray (noP Q) i (fun a' w' => (i = k ∨ S w') ∧ wpTo P l.toArray (noP Q) S k n (listed.setIfInBounds i true) a' w') a w := by
 have fin : ∀ a w, ((i == k) = true ∨ S w) ∧ K a w → (i = k ∨ S w) ∧ wpTo P l.toArray (noP Q) S k n (listed.setIfInBounds i true) a w := fun a w q => by
  rcases q.1 with h1 | h1
  ·exact ⟨.inl (by simpa using h1), ih a w (.inr (by simpa using h1)) q.2⟩
  ·exact ⟨.inr h1, ih a w (.inl h1) q.2⟩
 unfold wpOp
 simp only [hk]
 unfold wpList at h
 by_cases hw : Region.wanted (l.getD i default) (yielded l.toArray a.tmps) = true
 ·rw [if_pos hw] at h ⊢
  rcases h with h | ⟨h1, h2⟩
  ·refine .inl (oper_wp_mono (fun a w h => ?_) (fun c a w h => h) (fun h => ?_) h)
   ·unfold wpList at h
    exact fin a w h
   ·obtain ⟨a, w, h⟩ := h; exact ⟨a, w, h⟩
  ·obtain ⟨a, w, h⟩ := h2
   exact .inr ⟨h1, a, w, h⟩
 ·rw [if_neg hw] at h ⊢
  unfold wpList at h
  exact fin _ _ h
theorem mixJ_sound (l : List Oper) (k : Nat) (hs : Region.noSelect l.toArray = true) : ∀ (plan : PlanJ Nat) (z : Bool) (n m : Nat) (listed fin : Array Bool) (a : Act) (w : World) (K : Act → World → Prop), (z = true → m = 0) → plan.count = some n → mixJ l.toArray k z plan listed = some fin →
  (S w ∨ (n = 0 ∧ m = 0)) → (∀ a w, (S w ∨ m = 0) → K a w → wpTo P l.toArray (noP Q) S k m fin a w) → wpMixJ P l.toArray S Q (itemsJ l k plan) K a w → wpTo P l.toArray (noP Q) S k (n + m) listed a w := by
 have hget : ∀ i, i < l.toArray.size → l.toArray[i]? = some (l.getD i default) := fun i hi => by
  have hlt' : i < l.length := by simpa using hi
  simp [List.getD, hlt']
 intro plan
 induction plan with
 | done =>
  intro z n m listed fin a w K hz hn hB hS hK h
  obtain rfl : 0 = n := by simpa [PlanJ.count] using hn
  simp only [mixJ, Option.some.injEq] at hB
  subst hB
  rw [Nat.zero_add]
  exact hK a w (hS.imp id (fun h => h.2)) h
 | take i r ih =>
  intro z n m listed fin a w K hz hn hB hS hK h
  simp only [PlanJ.count, Option.map_eq_some_iff] at hn
  obtain ⟨n', hn', rfl⟩ := hn
  unfold mixJ at hB
  split at hB
  ·rename_i hc
   simp only [Bool.and_eq_true, decide_eq_true_eq] at hc
   obtain ⟨⟨⟨hlt, hr⟩, hf⟩, hwt⟩ := hc
   have hS' : S w := hS.resolve_right (by omega)
   have hk := hget i hlt
   have hr' : i ∈ Region.ready .any l.toArray listed := by simpa using hr
   have hik : i ≠ k := fun e => waits_spec hwt hr' (e ▸ hr')
   rw [show n' + 1 + m = (n' + m) + 1 by omega]
   unfold itemsJ PlanJ.map wpMixJ at h
   simp only at h
   by_cases hw : Region.wanted (l.getD i default) (yielded l.toArray a.tmps) = true
   ·rw [if_pos hw] at h
    obtain ⟨v, hv, hnn⟩ := h
    exact to_first hk hwt hik (Region.noSelect_spec hs) (fun c a w h => h) _ listed a w (Region.free_spec hk hf) hr' (.inl ⟨hw, hv⟩) hS' (ih z n' m _ fin _ _ K hz hn' hB (.inl hS') hK hnn)
   ·rw [if_neg hw] at h
    exact to_first (v := undef) hk hwt hik (Region.noSelect_spec hs) (fun c a w h => h) _ listed a w (Region.free_spec hk hf) hr' (.inr ⟨by simpa using hw, rfl⟩) hS' (ih z n' m _ fin _ _ K hz hn' hB (.inl hS') hK h)
  ·cases hB
 | one i r ih =>
  intro z n m listed fin a w K hz hn hB hS hK h
  simp only [PlanJ.count, Option.map_eq_some_iff] at hn
  obtain ⟨n', hn', rfl⟩ := hn
  unfold mixJ at hB
  split at hB
  ·rename_i hc
   simp only [Bool.and_eq_true, decide_eq_true_eq] at hc
   obtain ⟨⟨hlt, hr⟩, hlast⟩ := hc
   rw [show n' + 1 + m = (n' + m) + 1 by omega]
   unfold itemsJ PlanJ.map wpMixJ at h
   refine ⟨fun h0 => (by rw [hr] at h0; cases h0), fun j hj => ?_⟩
   rw [hr, List.mem_singleton] at hj
   subst hj
   refine oneJ_sound (hget j hlt) (fun a w hq hm => ih z n' m _ fin _ _ K hz hn' hB ?_ hK hm) h
   rcases hq with hq | hq
   ·exact .inl hq
   ·rw [hq] at hlast
    simp at hlast
    have hn0 := hlast.2
    rw [hn'] at hn0
    exact .inr ⟨Option.some.inj hn0, hz hlast.1⟩
  ·cases hB
 | two i j r s ih1 ih2 =>
  intro z n m listed fin a w K hz hn hB hS hK h
  unfold mixJ at hB
  split at hB
  ·rename_i hc
   simp only [Bool.and_eq_true, decide_eq_true_eq, Bool.not_eq_true', beq_eq_false_iff_ne] at hc
   obtain ⟨⟨⟨⟨hlt, hlt2⟩, hr⟩, hik⟩, hjk⟩ := hc
   unfold PlanJ.count at hn
   split at hn
   ·rename_i n1 n2 h1 h2
    split at hn
    ·rename_i he
     subst he
     obtain rfl := Option.some.inj hn
     split at hB
     ·rename_i f1 f2 hf1 hf2
      split at hB
      ·rename_i hfe
       subst hfe
       obtain rfl := Option.some.inj hB
       rw [show n1 + 1 + m = (n1 + m) + 1 by omega]
       unfold itemsJ PlanJ.map wpMixJ at h
       refine ⟨fun h0 => (by rw [hr] at h0; cases h0), fun x hx => ?_⟩
       rw [hr] at hx
       simp only [List.mem_cons, List.not_mem_nil, or_false] at hx
       rcases hx with rfl | rfl
       ·exact oneJ_sound (hget _ hlt) (fun a w hq hm => ih1 z n1 m _ _ _ _ K hz h1 hf1 (.inl (hq.resolve_right hik)) hK hm) h.1
       ·exact oneJ_sound (hget _ hlt2) (fun a w hq hm => ih2 z n1 m _ _ _ _ K hz h2 hf2 (.inl (hq.resolve_right hjk)) hK hm) h.2
      ·cases hB
     ·cases hB
    ·cases hn
   ·cases hn
  ·cases hB
 | join p r ih1 ih2 =>
  intro z n m listed fin a w K hz hn hB hS hK h
  unfold mixJ at hB
  split at hB
  ·rename_i l1 hl1
   unfold PlanJ.count at hn
   split at hn
   ·rename_i n1 n2 h1 h2
    obtain rfl := Option.some.inj hn
    unfold itemsJ PlanJ.map wpMixJ at h
    rw [Nat.add_assoc]
    refine ih1 false n1 (n2 + m) listed l1 a w _ (fun e => by cases e) h1 hl1 ?_ (fun a w hq hm => ih2 z n2 m l1 fin a w K hz h2 hB ?_ hK hm) h
    ·rcases hS with hS | ⟨q1, q2⟩
     ·exact .inl hS
     ·exact .inr ⟨by omega, by omega⟩
    ·rcases hq with hq | hq
     ·exact .inl hq
     ·exact .inr ⟨by omega, by omega⟩
   ·cases hn
  ·cases hB
end
end Go.Proofs.YtjbcagbnagefcaaGreat
namespace Go.Proofs.YtjbcagbnagefcaaGreat
open Go Go.RowKit
inductive PlanG (α : Type) where
 | done : PlanG α
 | take : α → PlanG α → PlanG α
 | one : α → PlanG α → PlanG α
 | grp : List α → List (List (Nat × Nat)) → PlanG α → PlanG α
def PlanG.map {α β : Type} (f : α → β) : PlanG α → PlanG β
 | .done => .done
 | .take i r => .take (f i) (r.map f)
 | .one i r => .one (f i) (r.map f)
 | .grp l e r => .grp (l.map f) e (r.map f)
abbrev ItemG := PlanG (Bool × Oper)
def itemsG (ops : List Oper) (k : Nat) (p : PlanG Nat) : ItemG := p.map fun i => (i == k, ops.getD i default)
def PlanG.count : PlanG Nat → Nat
 | .done => 0
 | .take _ r => r.count + 1
 | .one _ r => r.count + 1
 | .grp _ e r => e.length + r.count
section
variable {P : Program} {Q : Exit → Act → World → Prop} {S : World → Prop}
def wpMixG (P : Program) (ops : Array Oper) (S : World → Prop) (Q : Exit → Act → World → Prop) : ItemG → (Act → World → Prop) → Act → World → Prop
 | .done, K, a, w => K a w
 | .take o r, K, a, w => if Region.wanted o.2 (yielded ops a.tmps) = true then ∃ v, (∀ W, S W → (execOp a.eval o.2).run P W = .ok (.value v) W) ∧ wpMixG P ops S Q r K (a.put o.2.dst v) w else wpMixG P ops S Q r K (a.put o.2.dst undef) w
 | .one o r, K, a, w => wpList P ops (Exit.then (fun a' w' => (o.1 = true ∨ S w') ∧ wpMixG P ops S Q r K a' w') (noP Q)) [o.2] a w
 | .grp l e r, K, a, w => ∃ I : Nat → Act → World → Prop, I 0 a w ∧ (∀ s ∈ e.flatten, ∀ a' w', S w' → I s.1 a' w' → wpList P ops (Exit.then (fun a' w' => S w' ∧ I (s.1 ||| 2 ^ s.2) a' w') (noP Q)) [(l.getD s.2 default).2] a' w') ∧
   ∀ a' w', S w' → I (2 ^ l.length - 1) a' w' → wpMixG P ops S Q r K a' w'
def partly (l : List Nat) (listed : Array Bool) (m : Nat) : Array Bool := (List.range l.length).foldl (fun s p => if m.testBit p then s.setIfInBounds (l.getD p 0) true else s) listed
def headHas (e : List (List (Nat × Nat))) (full m : Nat) : Bool := match e with
 | [] => m == full
 | lv :: _ => lv.any fun s => s.1 == m
def grpB (ops : Array Oper) (k : Nat) (l : List Nat) (listed : Array Bool) : List (List (Nat × Nat)) → Bool
 | [] => true
 | lv :: rest => lv.all (fun s => decide (s.2 < l.length) && decide (l.getD s.2 0 < ops.size) && !(l.getD s.2 0 == k) && decide ((partly l listed s.1).setIfInBounds (l.getD s.2 0) true = partly l listed (s.1 ||| 2 ^ s.2)) && headHas rest (2 ^ l.length - 1) (s.1 ||| 2 ^ s.2)
   && !(Region.ready .any ops (partly l listed s.1)).isEmpty && (Region.ready .any ops (partly l listed s.1)).all fun i => lv.any fun t => t.1 == s.1 && l.getD t.2 0 == i) && grpB ops k l listed rest
def aloneB (ops : Array Oper) (k i : Nat) : Bool := waitsB ops k i || decide (ops.size ≤ k)
def mixG (ops : Array Oper) (k : Nat) : PlanG Nat → Array Bool → Bool
 | .done, listed => (Region.ready .any ops listed).isEmpty
 | .take i r, listed => decide (i < ops.size) && (Region.ready .any ops listed).contains i && Region.free .any ops listed i && aloneB ops k i && mixG ops k r (listed.setIfInBounds i true)
 | .one i r, listed => decide (i < ops.size) && decide (Region.ready .any ops listed = [i]) && (!(i == k) || decide (r.count = 0)) && mixG ops k r (listed.setIfInBounds i true)
 | .grp l e r, listed => !e.isEmpty && headHas e (2 ^ l.length - 1) 0 && grpB ops k l listed e && mixG ops k r (partly l listed (2 ^ l.length - 1))
theorem partly_zero (l : List Nat) (listed : Array Bool) : partly l listed 0 = listed := by
 unfold partly
 generalize List.range l.length = r
 induction r with
 | nil => rfl
 | cons p r ih => rw [List.foldl_cons]; simpa using ih
theorem alone_spec {ops : Array Oper} {k i : Nat} (h : aloneB ops k i = true) {listed : Array Bool} (hi : i ∈ Region.ready .any ops listed) : k ∉ Region.ready .any ops listed := by
 unfold aloneB at h
 rw [Bool.or_eq_true] at h
 rcases h with h | h
 ·exact waits_spec h hi
 ·intro hk
  obtain ⟨_, o, ho, _⟩ := mem_ready.1 hk
  have h2 : ops.size ≤ k := by simpa using h
  rw [Array.getElem?_eq_none h2] at ho
  cases ho
theorem to_firstG {ops : Array Oper} {k i : Nat} {oi : Oper} {v : Value} (hi : ops[i]? = some oi) (hk : aloneB ops k i = true) (hsel : ∀ (j : Nat) (o : Oper) cs b, ops[j]? = some o → o.op ≠ .select cs b)
  (hQ : ∀ c a w, Q (.panic c) (a.put oi.dst v) w → Q (.panic c) a w) : ∀ (n : Nat) (listed : Array Bool) (a : Act) (w : World),
  (∀ j oj, ops[j]? = some oj → j ≠ i → listed.getD j true = false → (∀ e ∈ oj.after, Region.binds .any e = true → e.on ≠ i) → oi.apart ops oj = true) →
  i ∈ Region.ready .any ops listed → YieldsIf P ops S oi v a → S w → wpTo P ops Q S k n (listed.setIfInBounds i true) (a.put oi.dst v) w → wpTo P ops Q S k (n + 1) listed a w := by
 intro n
 induction n with
 | zero =>
  intro listed a w _ hr hy hS H
  constructor
  ·intro h; rw [h] at hr; cases hr
  ·intro j hj
   by_cases e : j = i
   ·subst e
    exact hy.wpOp hi hS ⟨.inr hS, H⟩
   ·have h2 := ready_mono hj e
    rw [H.1] at h2
    cases h2
 | succ n ih =>
  intro listed a w hfree hr hy hS H
  constructor
  ·intro h; rw [h] at hr; cases hr
  ·intro j hj
   by_cases e : j = i
   ·subst e
    exact hy.wpOp hi hS ⟨.inr hS, H⟩
   ·have hjk : j ≠ k := fun e2 => by subst e2; exact alone_spec hk hr hj
    obtain ⟨hju, oj, hoj, hall⟩ := mem_ready.1 hj
    have hnot : ∀ d ∈ oj.after, Region.binds .any d = true → d.on ≠ i := by
     intro d hd hb hdi
     have q1 := hall d hd hb
     have q0 := (mem_ready.1 hr).1
     rw [hdi] at q1
     by_cases hlt : i < listed.size
     ·simp [hlt] at q0 q1
      rw [q0] at q1
      cases q1
     ·simp [Array.getElem?_eq_none (Nat.le_of_not_lt hlt)] at q1
    have step := wpOp_putIf hoj (hfree j oj hoj e hju hnot) (fun cs b => hsel i oi cs b hi) (fun cs b => hsel j oj cs b hoj) hQ hy (H.2 j (ready_mono hj e))
    refine wpOp_mono (fun a' w' q => ?_) step
    have hS' : S w' := q.2.1.resolve_left hjk
    refine ⟨.inr hS', ih (listed.setIfInBounds j true) a' w' (fun m om hm hmi hun hno => ?_) (ready_mono hr (Ne.symm e)) q.1 hS' ?_⟩
    ·refine hfree m om hm hmi ?_ hno
     by_cases ejm : j = m
     ·subst ejm; exact hju
     ·rw [getD_set_ne true ejm] at hun; exact hun
    ·rw [Array.setIfInBounds_comm _ _ e]
     exact q.2.2
theorem grpB_lt {ops : Array Oper} {k : Nat} {l : List Nat} {listed : Array Bool} : ∀ (e : List (List (Nat × Nat))), grpB ops k l listed e = true → ∀ s ∈ e.flatten, s.2 < l.length := by
 intro e
 induction e with
 | nil => intro _ s hs; cases hs
 | cons lv rest ih =>
  intro h s hs
  simp only [grpB, Bool.and_eq_true, List.all_eq_true, decide_eq_true_eq] at h
  simp only [List.flatten_cons, List.mem_append] at hs
  rcases hs with hs | hs
  ·exact (h.1 s hs).1.1.1.1.1.1
  ·exact ih h.2 s hs
theorem grp_sound (l : List Oper) (k : Nat) (ids : List Nat) (listed : Array Bool) (I : Nat → Act → World → Prop) (n : Nat) :
  ∀ (e : List (List (Nat × Nat))), grpB l.toArray k ids listed e = true →
  (∀ s ∈ e.flatten, ∀ a' w', S w' → I s.1 a' w' → wpList P l.toArray (Exit.then (fun a' w' => S w' ∧ I (s.1 ||| 2 ^ s.2) a' w') (noP Q)) [l.getD (ids.getD s.2 0) default] a' w') →
  (∀ a' w', S w' → I (2 ^ ids.length - 1) a' w' → wpTo P l.toArray (noP Q) S k n (partly ids listed (2 ^ ids.length - 1)) a' w') →
  ∀ m a w, headHas e (2 ^ ids.length - 1) m = true → S w → I m a w → wpTo P l.toArray (noP Q) S k (e.length + n) (partly ids listed m) a w := by
 intro e
 induction e with
 | nil =>
  intro hB hs hf m a w hm hS hI
  obtain rfl : m = 2 ^ ids.length - 1 := by simpa [headHas] using hm
  simpa using hf a w hS hI
 | cons lv rest ih =>
  intro hB hs hf m a w hm hS hI
  simp only [grpB, Bool.and_eq_true, List.all_eq_true, decide_eq_true_eq, Bool.not_eq_true', beq_eq_false_iff_ne] at hB
  obtain ⟨hlv, hrest⟩ := hB
  simp only [headHas, List.any_eq_true, beq_iff_eq] at hm
  obtain ⟨s0, hs0, rfl⟩ := hm
  rw [show (lv :: rest).length + n = (rest.length + n) + 1 by simp; omega]
  obtain ⟨⟨_, hne⟩, hall⟩ := hlv s0 hs0
  refine ⟨fun h0 => (by rw [h0] at hne; cases hne), fun i hi => ?_⟩
  have ht := hall i (by simpa using hi)
  simp only [List.any_eq_true, Bool.and_eq_true, beq_iff_eq] at ht
  obtain ⟨t, htl, hte, hti⟩ := ht
  obtain ⟨⟨⟨⟨⟨⟨h1, h2⟩, h3⟩, h4⟩, h5⟩, _⟩, _⟩ := hlv t htl
  rw [hti] at h2 h3 h4
  rw [hte] at h4 h5
  have hk : l.toArray[i]? = some (l.getD i default) := by
   have hlt' : i < l.length := by simpa using h2
   simp [List.getD, hlt']
  have hstep := hs t (by simp only [List.flatten_cons, List.mem_append]; exact .inl htl) a w hS (by rw [hte]; exact hI)
  rw [hti, hte] at hstep
  refine oneJ_sound (K := fun a' w' => S w' ∧ I (s0.1 ||| 2 ^ t.2) a' w') hk (fun a' w' hq hm => ?_) ?_
  ·rw [h4]
   exact ih hrest (fun s hs' => hs s (by simp only [List.flatten_cons, List.mem_append]; exact .inr hs')) hf _ a' w' h5 hm.1 hm.2
  ·exact wpList_monoJ (fun a w q => ⟨.inr q.1, q⟩) hstep
theorem mixG_sound (l : List Oper) (k : Nat) (hs : Region.noSelect l.toArray = true) : ∀ (plan : PlanG Nat) (listed : Array Bool) (a : Act) (w : World), mixG l.toArray k plan listed = true → (S w ∨ plan.count = 0) →
  wpMixG P l.toArray S Q (itemsG l k plan) (fun a w => Q .normal a w) a w → wpTo P l.toArray (noP Q) S k plan.count listed a w := by
 have hget : ∀ i, i < l.toArray.size → l.toArray[i]? = some (l.getD i default) := fun i hi => by
  have hlt' : i < l.length := by simpa using hi
  simp [List.getD, hlt']
 intro plan
 induction plan with
 | done =>
  intro listed a w hB hS h
  exact ⟨by simpa [mixG] using hB, noP_normal h⟩
 | take i r ih =>
  intro listed a w hB hS h
  simp only [mixG, Bool.and_eq_true, decide_eq_true_eq] at hB
  obtain ⟨⟨⟨⟨hlt, hr⟩, hf⟩, hwt⟩, hB'⟩ := hB
  have hS' : S w := hS.resolve_right (by simp [PlanG.count])
  have hk := hget i hlt
  have hr' : i ∈ Region.ready .any l.toArray listed := by simpa using hr
  show wpTo P l.toArray (noP Q) S k (r.count + 1) listed a w
  unfold itemsG PlanG.map wpMixG at h
  simp only at h
  by_cases hw : Region.wanted (l.getD i default) (yielded l.toArray a.tmps) = true
  ·rw [if_pos hw] at h
   obtain ⟨v, hv, hnn⟩ := h
   exact to_firstG hk hwt (Region.noSelect_spec hs) (fun c a w h => h) _ listed a w (Region.free_spec hk hf) hr' (.inl ⟨hw, hv⟩) hS' (ih _ _ _ hB' (.inl hS') hnn)
  ·rw [if_neg hw] at h
   exact to_firstG (v := undef) hk hwt (Region.noSelect_spec hs) (fun c a w h => h) _ listed a w (Region.free_spec hk hf) hr' (.inr ⟨by simpa using hw, rfl⟩) hS' (ih _ _ _ hB' (.inl hS') h)
 | one i r ih =>
  intro listed a w hB hS h
  simp only [mixG, Bool.and_eq_true, decide_eq_true_eq] at hB
  obtain ⟨⟨⟨hlt, hr⟩, hlast⟩, hB'⟩ := hB
  show wpTo P l.toArray (noP Q) S k (r.count + 1) listed a w
  unfold itemsG PlanG.map wpMixG at h
  refine ⟨fun h0 => (by rw [hr] at h0; cases h0), fun j hj => ?_⟩
  rw [hr, List.mem_singleton] at hj
  subst hj
  refine oneJ_sound (hget j hlt) (fun a w hq hm => ih _ a w hB' ?_ hm) h
  rcases hq with hq | hq
  ·exact .inl hq
  ·rw [hq] at hlast
   simp at hlast
   exact .inr hlast
 | grp ids e r ih =>
  intro listed a w hB hS h
  simp only [mixG, Bool.and_eq_true] at hB
  obtain ⟨⟨⟨hn, hh⟩, hg⟩, hB'⟩ := hB
  have he : e ≠ [] := fun q => by rw [q] at hn; cases hn
  show wpTo P l.toArray (noP Q) S k (e.length + r.count) listed a w
  unfold itemsG PlanG.map wpMixG at h
  obtain ⟨I, h0, hstep, hend⟩ := h
  rw [List.length_map] at hend
  rw [← partly_zero ids listed]
  have hS' : S w := hS.resolve_right (by
   intro q
   apply he
   exact List.eq_nil_of_length_eq_zero (by simp [PlanG.count] at q; simp [q.1]))
  refine grp_sound l k ids listed I r.count e hg (fun s hs' a' w' hS'' hI => ?_) (fun a' w' hS'' hI => ih _ a' w' hB' (.inl hS'') (hend a' w' hS'' hI)) 0 a w hh hS' h0
  have q := hstep s hs' a' w' hS'' hI
  have hlt := grpB_lt e hg s hs'
  have e1 : ((ids.map fun i => (i == k, l.getD i default)).getD s.2 default).2 = l.getD (ids.getD s.2 0) default := by
   simp [List.getD, hlt]
  rw [e1] at q
  exact q
theorem wp_region_mixG {id : Nat} {a : Act} {w : World} {l : List Oper} (S : World → Prop) (k : Nat) (plan : PlanG Nat) (hm : P.follows .mixedOrders = true)
  (hB : (Region.noSelect l.toArray && decide (plan.count = l.toArray.size) && mixG l.toArray k plan (Array.replicate l.toArray.size false)) = true) (hS : S w.drew)
  (h : wpMixG P l.toArray S Q (itemsG l k plan) (fun a w => Q .normal a w) a w.drew) : (Code.region id l.toArray true).wp P Q a w := by
 simp only [Bool.and_eq_true, decide_eq_true_eq] at hB
 obtain ⟨⟨hs, hl⟩, hB⟩ := hB
 have H := mixG_sound (P := P) (Q := Q) (S := S) l k hs plan _ a w.drew hB (.inl hS) h
 rw [hl] at H
 exact wp_mono (wp_region_any hm (wpAny_to _ _ _ _ H)) noP_le
theorem wpMixG_done {ops : Array Oper} {K : Act → World → Prop} {a : Act} {w : World} (h : K a w) : wpMixG P ops S Q .done K a w := h
theorem wpMixG_free {ops : Array Oper} {C : Act → World → Prop} {a : Act} {w : World} {b : Bool} {o : Oper} {r : ItemG}
  (h : ∀ K : Act → Prop, (∀ a, wpMixG P ops S Q r C a w → K a) → if Region.wanted o (yielded ops a.tmps) = true then ∃ v, (∀ W, (execOp a.eval o).run P W = .ok (.value v) W) ∧ K (a.put o.dst v) else K (a.put o.dst undef)) : wpMixG P ops S Q (.take (b, o) r) C a w := by
 have h2 := h (fun a => wpMixG P ops S Q r C a w) (fun _ h => h)
 unfold wpMixG
 by_cases hw : Region.wanted o (yielded ops a.tmps) = true
 ·rw [if_pos hw] at h2 ⊢
  obtain ⟨v, hv, hn⟩ := h2
  exact ⟨v, fun W _ => hv W, hn⟩
 ·rw [if_neg hw] at h2 ⊢
  exact h2
theorem wpMixG_yield {ops : Array Oper} {C : Act → World → Prop} {a : Act} {w : World} {b : Bool} {o : Oper} {r : ItemG} {v : Value} (hr : ∀ W, S W → (execOp a.eval o).run P W = .ok (.value v) W)
  (h : ∀ K : Act → Prop, (∀ a, wpMixG P ops S Q r C a w → K a) → if Region.wanted o (yielded ops a.tmps) = true then K (a.put o.dst v) else K (a.put o.dst undef)) : wpMixG P ops S Q (.take (b, o) r) C a w := by
 have h2 := h (fun a => wpMixG P ops S Q r C a w) (fun _ h => h)
 unfold wpMixG
 by_cases hw : Region.wanted o (yielded ops a.tmps) = true
 ·rw [if_pos hw] at h2 ⊢
  exact ⟨v, hr, h2⟩
 ·rw [if_neg hw] at h2 ⊢
  exact h2
theorem wpMixG_one {ops : Array Oper} {C : Act → World → Prop} {a : Act} {w : World} {b : Bool} {o : Oper} {r : ItemG}
  (h : ∀ K : Act → World → Prop, (∀ a w, b = true ∨ S w → wpMixG P ops S Q r C a w → K a w) → wpList P ops (Exit.then K (noP Q)) [o] a w) : wpMixG P ops S Q (.one (b, o) r) C a w := by
 unfold wpMixG
 exact h (fun a w => (b = true ∨ S w) ∧ wpMixG P ops S Q r C a w) (fun a w h1 h2 => ⟨h1, h2⟩)
end
end Go.Proofs.YtjbcagbnagefcaaGreat
namespace Go.Proofs.YtjbcagbnagefcaaGreat
open Go Go.RowKit
section
variable {P : Program} {Q : Exit → Act → World → Prop} {S : World → Prop}
def wpToB (P : Program) (ops : Array Oper) (Q : Exit → Act → World → Prop) (S : World → Prop) (B : List Nat) : Nat → Array Bool → Act → World → Prop
 | 0, listed, a, w => Region.ready .any ops listed = [] ∧ Q .normal a w
 | n + 1, listed, a, w => (Region.ready .any ops listed = [] → Q .normal a w) ∧ ∀ i ∈ Region.ready .any ops listed, wpOp P ops Q i (fun a' w' => (i ∈ B ∨ S w') ∧ wpToB P ops Q S B n (listed.setIfInBounds i true) a' w') a w
theorem wpAny_toB {ops : Array Oper} {B : List Nat} : ∀ (n : Nat) (listed : Array Bool) (a : Act) (w : World), wpToB P ops Q S B n listed a w → wpAny P .any ops Q n listed a w := by
 intro n
 induction n with
 | zero => intro listed a w h; exact h
 | succ n ih => intro listed a w h; exact ⟨h.1, fun i hi => wpOp_mono (fun a' w' h' => ih _ a' w' h'.2) (h.2 i hi)⟩
def waitsAll (ops : Array Oper) (B : List Nat) (i : Nat) : Bool := B.all fun k => waitsB ops k i
theorem waitsAll_spec {ops : Array Oper} {B : List Nat} {i : Nat} (h : waitsAll ops B i = true) {listed : Array Bool} (hi : i ∈ Region.ready .any ops listed) : ∀ k ∈ B, k ∉ Region.ready .any ops listed := fun k hk =>
 waits_spec (List.all_eq_true.1 h k hk) hi
theorem to_firstB {ops : Array Oper} {B : List Nat} {i : Nat} {oi : Oper} {v : Value} (hi : ops[i]? = some oi) (hk : waitsAll ops B i = true) (hsel : ∀ (j : Nat) (o : Oper) cs b, ops[j]? = some o → o.op ≠ .select cs b)
  (hQ : ∀ c a w, Q (.panic c) (a.put oi.dst v) w → Q (.panic c) a w) : ∀ (n : Nat) (listed : Array Bool) (a : Act) (w : World),
  (∀ j oj, ops[j]? = some oj → j ≠ i → listed.getD j true = false → (∀ e ∈ oj.after, Region.binds .any e = true → e.on ≠ i) → oi.apart ops oj = true) →
  i ∈ Region.ready .any ops listed → YieldsIf P ops S oi v a → S w → wpToB P ops Q S B n (listed.setIfInBounds i true) (a.put oi.dst v) w → wpToB P ops Q S B (n + 1) listed a w := by
 intro n
 induction n with
 | zero =>
  intro listed a w _ hr hy hS H
  constructor
  ·intro h; rw [h] at hr; cases hr
  ·intro j hj
   by_cases e : j = i
   ·subst e
    exact hy.wpOp hi hS ⟨.inr hS, H⟩
   ·have h2 := ready_mono hj e
    rw [H.1] at h2
    cases h2
 | succ n ih =>
  intro listed a w hfree hr hy hS H
  constructor
  ·intro h; rw [h] at hr; cases hr
  ·intro j hj
   by_cases e : j = i
   ·subst e
    exact hy.wpOp hi hS ⟨.inr hS, H⟩
   ·have hjk : j ∉ B := fun e2 => waitsAll_spec hk hr j e2 hj
    obtain ⟨hju, oj, hoj, hall⟩ := mem_ready.1 hj
    have hnot : ∀ d ∈ oj.after, Region.binds .any d = true → d.on ≠ i := by
     intro d hd hb hdi
     have q1 := hall d hd hb
     have q0 := (mem_ready.1 hr).1
     rw [hdi] at q1
     by_cases hlt : i < listed.size
     ·simp [hlt] at q0 q1
      rw [q0] at q1
      cases q1
     ·simp [Array.getElem?_eq_none (Nat.le_of_not_lt hlt)] at q1
    have step := wpOp_putIf hoj (hfree j oj hoj e hju hnot) (fun cs b => hsel i oi cs b hi) (fun cs b => hsel j oj cs b hoj) hQ hy (H.2 j (ready_mono hj e))
    refine wpOp_mono (fun a' w' q => ?_) step
    have hS' : S w' := q.2.1.resolve_left hjk
    refine ⟨.inr hS', ih (listed.setIfInBounds j true) a' w' (fun m om hm hmi hun hno => ?_) (ready_mono hr (Ne.symm e)) q.1 hS' ?_⟩
    ·refine hfree m om hm hmi ?_ hno
     by_cases ejm : j = m
     ·subst ejm; exact hju
     ·rw [getD_set_ne true ejm] at hun; exact hun
    ·rw [Array.setIfInBounds_comm _ _ e]
     exact q.2.2
def wpMixB (P : Program) (ops : Array Oper) (S : World → Prop) (Q : Exit → Act → World → Prop) : List (Nat × Oper) → Act → World → Prop
 | [], a, w => Q .normal a w
 | (0, o) :: r, a, w => if Region.wanted o (yielded ops a.tmps) = true then ∃ v, (∀ W, S W → (execOp a.eval o).run P W = .ok (.value v) W) ∧ wpMixB P ops S Q r (a.put o.dst v) w else wpMixB P ops S Q r (a.put o.dst undef) w
 | (1, o) :: r, a, w => wpList P ops (Exit.then (fun a' w' => S w' ∧ wpMixB P ops S Q r a' w') (noP Q)) [o] a w
 | (_ + 2, o) :: r, a, w => wpList P ops (Exit.then (fun a' w' => wpMixB P ops S Q r a' w') (noP Q)) [o] a w
def itemsB (ops : List Oper) (plan : List (Nat × Nat)) : List (Nat × Oper) := plan.map fun p => (p.1, ops.getD p.2 default)
def lateOf (plan : List (Nat × Nat)) : List Nat := (plan.filter fun p => 2 ≤ p.1).map (·.2)
def mixBB (ops : Array Oper) (B : List Nat) : List (Nat × Nat) → Array Bool → Bool
 | [], listed => (Region.ready .any ops listed).isEmpty
 | (0, k) :: r, listed => decide (k < ops.size) && (Region.ready .any ops listed).contains k && Region.free .any ops listed k && waitsAll ops B k && mixBB ops B r (listed.setIfInBounds k true)
 | (1, k) :: r, listed => decide (k < ops.size) && decide (Region.ready .any ops listed = [k]) && !(B.contains k) && mixBB ops B r (listed.setIfInBounds k true)
 | (_ + 2, k) :: r, listed => decide (k < ops.size) && decide (Region.ready .any ops listed = [k]) && B.contains k && r.all (fun p => decide (2 ≤ p.1)) && mixBB ops B r (listed.setIfInBounds k true)
theorem oneB_sound {l : List Oper} {B : List Nat} {i n : Nat} {listed : Array Bool} {a : Act} {w : World} {K : Act → World → Prop} (hk : l.toArray[i]? = some (l.getD i default))
  (ih : ∀ a w, K a w → (i ∈ B ∨ S w) ∧ wpToB P l.toArray (noP Q) S B n (listed.setIfInBounds i true) a w)
  (h : wpList P l.toArray (Exit.then K (noP Q)) [l.getD i default] a w) :
  wpOp P l.toArray (noP Q) i (fun a' w' => (i ∈ B ∨ S w') ∧ wpToB P l.toArray (noP Q) S B n (listed.setIfInBounds i true) a' w') a w := by
 unfold wpOp
 simp only [hk]
 unfold wpList at h
 by_cases hw : Region.wanted (l.getD i default) (yielded l.toArray a.tmps) = true
 ·rw [if_pos hw] at h ⊢
  rcases h with h | ⟨h1, h2⟩
  ·refine .inl (oper_wp_mono (fun a w h => ?_) (fun c a w h => h) (fun h => ?_) h)
   ·unfold wpList at h
    exact ih a w h
   ·obtain ⟨a, w, h⟩ := h; exact ⟨a, w, h⟩
  ·obtain ⟨a, w, h⟩ := h2
   exact .inr ⟨h1, a, w, h⟩
 ·rw [if_neg hw] at h ⊢
  unfold wpList at h
  exact ih _ _ h
theorem mixBB_sound (l : List Oper) (B : List Nat) (hs : Region.noSelect l.toArray = true) : ∀ (plan : List (Nat × Nat)) (listed : Array Bool) (a : Act) (w : World), mixBB l.toArray B plan listed = true → (S w ∨ plan.all (fun p => decide (2 ≤ p.1)) = true) →
  wpMixB P l.toArray S Q (itemsB l plan) a w → wpToB P l.toArray (noP Q) S B plan.length listed a w := by
 have hget : ∀ i, i < l.toArray.size → l.toArray[i]? = some (l.getD i default) := fun i hi => by
  have hlt' : i < l.length := by simpa using hi
  simp [List.getD, hlt']
 intro plan
 induction plan with
 | nil =>
  intro listed a w hB _ h
  exact ⟨by simpa [mixBB] using hB, h⟩
 | cons p r ih =>
  intro listed a w hB hS h
  obtain ⟨b, k⟩ := p
  match b, hB, hS, h with
  | 0, hB, hS, h =>
   simp only [mixBB, Bool.and_eq_true, decide_eq_true_eq] at hB
   obtain ⟨⟨⟨⟨hlt, hr⟩, hf⟩, hwt⟩, hB'⟩ := hB
   have hS' : S w := hS.resolve_right (by simp)
   have hk := hget k hlt
   have hr' : k ∈ Region.ready .any l.toArray listed := by simpa using hr
   unfold itemsB at h
   rw [List.map_cons] at h
   unfold wpMixB at h
   simp only at h
   by_cases hw : Region.wanted (l.getD k default) (yielded l.toArray a.tmps) = true
   ·rw [if_pos hw] at h
    obtain ⟨v, hv, hn⟩ := h
    exact to_firstB hk hwt (Region.noSelect_spec hs) (fun c a w h => h) _ listed a w (Region.free_spec hk hf) hr' (.inl ⟨hw, hv⟩) hS' (ih _ _ _ hB' (.inl hS') hn)
   ·rw [if_neg hw] at h
    exact to_firstB (v := undef) hk hwt (Region.noSelect_spec hs) (fun c a w h => h) _ listed a w (Region.free_spec hk hf) hr' (.inr ⟨by simpa using hw, rfl⟩) hS' (ih _ _ _ hB' (.inl hS') h)
  | 1, hB, hS, h =>
   simp only [mixBB, Bool.and_eq_true, decide_eq_true_eq] at hB
   obtain ⟨⟨⟨hlt, hr⟩, hnb⟩, hB'⟩ := hB
   unfold itemsB at h
   rw [List.map_cons] at h
   unfold wpMixB at h
   refine ⟨fun h0 => (by rw [hr] at h0; cases h0), fun j hj => ?_⟩
   rw [hr, List.mem_singleton] at hj
   subst hj
   exact oneB_sound (hget j hlt) (fun a w hq => ⟨.inr hq.1, ih _ a w hB' (.inl hq.1) hq.2⟩) h
  | b + 2, hB, hS, h =>
   simp only [mixBB, Bool.and_eq_true, decide_eq_true_eq] at hB
   obtain ⟨⟨⟨⟨hlt, hr⟩, hb⟩, hall⟩, hB'⟩ := hB
   unfold itemsB at h
   rw [List.map_cons] at h
   unfold wpMixB at h
   refine ⟨fun h0 => (by rw [hr] at h0; cases h0), fun j hj => ?_⟩
   rw [hr, List.mem_singleton] at hj
   subst hj
   exact oneB_sound (hget j hlt) (fun a w hq => ⟨.inl (by simpa using hb), ih _ a w hB' (.inr hall) hq⟩) h
theorem wp_region_mixB {id : Nat} {a : Act} {w : World} {l : List Oper} (S : World → Prop) (plan : List (Nat × Nat)) (hm : P.follows .mixedOrders = true)
  (hB : (Region.noSelect l.toArray && decide (plan.length = l.toArray.size) && mixBB l.toArray (lateOf plan) plan (Array.replicate l.toArray.size false)) = true) (hS : S w.drew)
  (h : wpMixB P l.toArray S Q (itemsB l plan) a w.drew) : (Code.region id l.toArray true).wp P Q a w := by
 simp only [Bool.and_eq_true, decide_eq_true_eq] at hB
 obtain ⟨⟨hs, hl⟩, hB⟩ := hB
 have H := mixBB_sound (P := P) (Q := Q) (S := S) l (lateOf plan) hs plan _ a w.drew hB (.inl hS) h
 rw [hl] at H
 exact wp_mono (wp_region_any hm (wpAny_toB _ _ _ _ H)) noP_le
theorem wpMixB_nil {ops : Array Oper} {a : Act} {w : World} (h : Q .normal a w) : wpMixB P ops S Q [] a w := by unfold wpMixB; exact h
theorem wpMixB_free {ops : Array Oper} {a : Act} {w : World} {o : Oper} {r : List (Nat × Oper)}
  (h : ∀ K : Act → Prop, (∀ a, wpMixB P ops S Q r a w → K a) → if Region.wanted o (yielded ops a.tmps) = true then ∃ v, (∀ W, (execOp a.eval o).run P W = .ok (.value v) W) ∧ K (a.put o.dst v) else K (a.put o.dst undef)) : wpMixB P ops S Q ((0, o) :: r) a w := by
 have h2 := h (fun a => wpMixB P ops S Q r a w) (fun _ h => h)
 unfold wpMixB
 by_cases hw : Region.wanted o (yielded ops a.tmps) = true
 ·rw [if_pos hw] at h2 ⊢
  obtain ⟨v, hv, hn⟩ := h2
  exact ⟨v, fun W _ => hv W, hn⟩
 ·rw [if_neg hw] at h2 ⊢
  exact h2
theorem wpMixB_yield {ops : Array Oper} {a : Act} {w : World} {o : Oper} {r : List (Nat × Oper)} {v : Value} (hr : ∀ W, S W → (execOp a.eval o).run P W = .ok (.value v) W)
  (h : ∀ K : Act → Prop, (∀ a, wpMixB P ops S Q r a w → K a) → if Region.wanted o (yielded ops a.tmps) = true then K (a.put o.dst v) else K (a.put o.dst undef)) : wpMixB P ops S Q ((0, o) :: r) a w := by
 have h2 := h (fun a => wpMixB P ops S Q r a w) (fun _ h => h)
 unfold wpMixB
 by_cases hw : Region.wanted o (yielded ops a.tmps) = true
 ·rw [if_pos hw] at h2 ⊢
  exact ⟨v, hr, h2⟩
 ·rw [if_neg hw] at h2 ⊢
  exact h2
theorem wpMixB_one {ops : Array Oper} {a : Act} {w : World} {o : Oper} {r : List (Nat × Oper)}
  (h : ∀ K : Act → World → Prop, (∀ a w, S w → wpMixB P ops S Q r a w → K a w) → wpList P ops (Exit.then K (noP Q)) [o] a w) : wpMixB P ops S Q ((1, o) :: r) a w := by
 unfold wpMixB
 exact h (fun a w => S w ∧ wpMixB P ops S Q r a w) (fun a w h1 h2 => ⟨h1, h2⟩)
theorem wpMixB_late {ops : Array Oper} {a : Act} {w : World} {o : Oper} {r : List (Nat × Oper)}
  (h : ∀ K : Act → World → Prop, (∀ a w, wpMixB P ops S Q r a w → K a w) → wpList P ops (Exit.then K (noP Q)) [o] a w) : wpMixB P ops S Q ((2, o) :: r) a w := by
 unfold wpMixB
 exact h (fun a w => wpMixB P ops S Q r a w) (fun a w h => h)
end
end Go.Proofs.YtjbcagbnagefcaaGreat
namespace Go.Proofs.YtjbcagbnagefcaaGreat
open Go.RowKit
section
variable {P : Program} {ops : Array Oper} {a : Act} {w : World} {K : Act → World → Prop} {Q : Exit → Act → World → Prop}
end
section
variable {ops : Array Oper} {a : Act} {w : World} {K : Act → World → Prop} {Q : Exit → Act → World → Prop} {d : Nat} {ty' : TypeId} {pos : String} {af : Array Edge} {C : Array Value} {n : Nat}
end
end Go.Proofs.YtjbcagbnagefcaaGreat
namespace Go.Proofs.YtjbcagbnagefcaaGreat
open Go.RowKit
attribute [local go_sem ↓] exec_mid_ty exec_store_ty exec_mid_pl exec_store_pl exec_mid_opr exec_store_opr exec_mid_val exec_store_val exec_mid_st exec_store_st exec_mid_fld exec_store_fld exec_mid_str exec_store_str exec_mid_lif exec_store_lif exec_mid_fun exec_store_fun exec_mid_cr exec_store_cr
attribute [local go_sem] rowOk_new World.setRow_alloc_new
structure SigD where
 name : List UInt8
 cr : CrD
def SigIs (S : Nat → Prop) (w : World) (d : SigD) (cs : List Value) : Prop := ∃ (a1 : Option Addr) (c1 : Nat) (a2 : Option Addr) (c2 : Nat), cs = [txV d.name, .slice a1 d.cr.structs.length c1, .slice a2 d.cr.funcs.length c2] ∧ d.name.length ≤ bigN ∧ SlIs S w 5 (StrIs S w) a1 d.cr.structs ∧ SlIs S w 10 (FunIs S w) a2 d.cr.funcs
theorem SigIs.keeps {S S' T : Nat → Prop} {w w' : World} {d : SigD} {cs : List Value} (h : SigIs S w d cs) (K : Keeps T w w') (hT : ∀ b, S b → ¬ T b) (hS : ∀ b, S b → S' b) : SigIs S' w' d cs := by
 obtain ⟨a1, c1, a2, c2, rfl, h0, h1, h2⟩ := h
 exact ⟨a1, c1, a2, c2, rfl, h0, h1.keeps K hT hS (fun _ _ _ h => h.keeps K hT hS), h2.keeps K hT hS (fun _ _ _ h => h.keeps K hT hS)⟩
theorem SigIs.len {S : Nat → Prop} {w : World} {d : SigD} {cs : List Value} (h : SigIs S w d cs) : cs.length = 3 := by
 obtain ⟨a1, c1, a2, c2, rfl, h0, h1, h2⟩ := h
 rfl
theorem SigIs.one {S : Nat → Prop} {w : World} {d : SigD} {cs : List Value} (h : SigIs S w d cs) : ∀ u ∈ cs, u.oneCell' = true := by
 obtain ⟨a1, c1, a2, c2, rfl, h0, h1, h2⟩ := h
 intro u hu
 simp only [List.mem_cons, List.not_mem_nil, or_false] at hu
 rcases hu with (rfl | rfl | rfl)
 all_goals rfl
theorem infoSig : (Tryz.prog.info? 32).map (·.size) = some 3 := by kernel_rfl
theorem exec_mid_sig (ρ : Operand → Value) (dst : Option Tmp) (x : Operand) (ty' : TypeId) (pos : String) (af : Array Edge) (gd : Option (Nat × Bool)) (w : World) (h : midOkV w 3 (ρ x) = true) :
  (execOp ρ ⟨dst, .load 32 x, ty', pos, af, gd⟩).run Tryz.prog w = .ok (.value (.agg (midOfV w 3 (ρ x)))) w :=
 exec_load_mid _ 3 _ Tryz.underlying32 rfl infoSig ρ dst x ty' pos af gd w h
theorem exec_store_sig (ρ : Operand → Value) (dst : Option Tmp) (x y : Operand) (ty' : TypeId) (pos : String) (af : Array Edge) (gd : Option (Nat × Bool)) (w : World) (h : rowOkV w 3 (ρ x) = true) (hy : aggOk 3 (ρ y) = true) :
  (execOp ρ ⟨dst, .store 32 x y, ty', pos, af, gd⟩).run Tryz.prog w = .ok .skip (rowSetV w (ρ x) (aggOf (ρ y))) :=
 exec_store _ 3 infoSig ρ dst x y ty' pos af gd w h hy
attribute [local go_sem ↓] exec_mid_sig exec_store_sig
theorem SigB {w : World} {g : Nat} {T : TypeId} {v0 v1 v2 : Value} {C : Array Value} (hC : C = ([v0, v1, v2]).toArray) (hb : Blk w g C T) : w.cell? ⟨g, 0, none⟩ = some v0 ∧ w.cell? ⟨g, 1, none⟩ = some v1 ∧ w.cell? ⟨g, 2, none⟩ = some v2 := by
 subst hC
 exact ⟨blk_cell hb 0 rfl, blk_cell hb 1 rfl, blk_cell hb 2 rfl⟩
def MayS (s : SigD) : Prop := (∀ x ∈ s.cr.structs, x.pub = true ∧ x.pos = 0) ∧ (∀ f ∈ s.cr.funcs, f.pub = true ∧ f.pos = 0 ∧ f.body = []) ∧ isName s.name = true ∧ CrP s.cr
def OkSt (x : StrD) : Prop := x.pub = true ∧ x.pos = 0
def OkFn (f : FunD) : Prop := f.pub = true ∧ f.pos = 0 ∧ f.body = []
set_option maxRecDepth 100000 in
set_option maxHeartbeats 4000000 in
theorem smay_any {S : Nat → Prop} (s : SigD) (w : World) (hM : MaxV w) (cs : List Value) (h : SigIs S w s cs) : Calls Tryz.prog 21 #[.agg cs.toArray] w (Tells w (MayS s)) := by
 have ag1 := agg_ok h.len h.one
 have HM := shut hM
 obtain ⟨a1, c1, a2, c2, hcs, hnm, h1, h2⟩ := h
 obtain ⟨s_name, s_structs, s_funcs⟩ := s
 simp only at hcs hnm h1 h2
 obtain ⟨n1, hn1⟩ : ∃ n, s_structs.length = n := ⟨_, rfl⟩
 obtain ⟨n2, hn2⟩ : ∃ n, s_funcs.length = n := ⟨_, rfl⟩
 rw [hn1, hn2] at hcs
 have hb1 := h1.1
 have hb2 := h2.1
 unfold bigN at hb1 hb2 hnm
 rw [hn1] at hb1
 rw [hn2] at hb2
 have HN1 := shut hn1
 have HN2 := shut hn2
 have H1 := shut h1
 have H2 := shut h2
 obtain ⟨P, hP⟩ : ∃ P, MayS ⟨s_name, ⟨s_structs, s_funcs⟩⟩ = P := ⟨_, rfl⟩
 have HP : Shut (P ↔ (∀ x ∈ s_structs, OkSt x) ∧ (∀ f ∈ s_funcs, OkFn f) ∧ isName s_name = true ∧ CrP ⟨s_structs, s_funcs⟩) := shut (by rw [← hP]; exact Iff.rfl)
 rw [hP]
 obtain ⟨CS, hCS⟩ : ∃ C, C = cs.toArray := ⟨_, rfl⟩
 rw [← hCS] at ag1 ⊢
 unfold txV at hcs
 rw [hcs] at hCS
 have GS := shut hCS
 clear hCS hcs h1 h2 hn1 hn2 hP hM
 have BS := blk_new w CS 32
 have KW : Keeps Nothing w (w.alloc (.cells CS 32)) := (Keeps.refl Nothing w).alloc _
 go_enter Tryz.func21, Tryz.ntmps21
 go_upto_region 1 with fail
 clear ag1
 obtain ⟨gs, hgs⟩ : ∃ g, w.heap.size = g := ⟨_, rfl⟩
 rw [hgs] at BS ⊢
 clear hgs
 generalize w.alloc (.cells CS 32) = w0 at *
 obtain ⟨e0, e1, e2⟩ := SigB GS.out BS
 have HBS := shut BS
 go_wp2_with fail
 go_loopw [4, 10] (fun s4 s10 wx => ∃ t : Nat, s10 = .int .i64 t ∧ t ≤ n1 ∧ Keeps Nothing w wx ∧ Blk wx gs CS 32 ∧ Shut (∀ x ∈ s_structs.take t, OkSt x)) (fun _ s10 _ => n1 - (intOf s10).toNat)
 case atStart => exact ⟨0, rfl, Nat.zero_le _, KW, HBS.out, shut (by simp)⟩
 case round =>
  obtain ⟨t, rfl, ht, KL, BSr, HT⟩ := hrel
  clear BS HBS e0 e1 e2 KW
  obtain ⟨e0, e1, e2⟩ := SigB GS.out BSr
  by_cases hlt : t < n1
  ·obtain ⟨d, hd⟩ : ∃ d, s_structs[t]? = some d := ⟨_, List.getElem?_eq_getElem (by rw [HN1.out]; exact hlt)⟩
   obtain ⟨g1, o1, rfl, -, cs1, l1, r1, i1⟩ := (H1.out.keeps KL (fun _ _ h => h) (fun _ h => h) (fun _ _ _ h => h.keeps KL (fun _ _ h => h) (fun _ h => h))).get hd
   have HD := shut hd
   clear hd
   have m0 : (0 : Int) ≤ t := by omega
   have m1 : (t : Int) < n1 := by omega
   have ag1 := agg_ok l1 i1.one
   obtain ⟨CX, hCX⟩ : ∃ C, C = cs1.toArray := ⟨_, rfl⟩
   obtain ⟨hk, ho⟩ := sub_of r1 l1
   rw [← hCX] at ag1 ho
   obtain ⟨d_pub, d_name, d_lives, d_fields, d_pos⟩ := d
   obtain ⟨b2, k2, b3, k3, hcs1, -, -, -⟩ := i1
   simp only at hcs1
   rw [hcs1] at hCX
   have GX := shut hCX
   clear hCX r1 hcs1
   have BX := blk_new wr CX 49
   have BS2 := blk_alloc BSr (.cells CX 49)
   have KX : Keeps Nothing w (wr.alloc (.cells CX 49)) := KL.alloc _
   go_upto_region 4 with fail
   clear hk ho ag1 KL BSr e0 e1 e2
   generalize wr.heap.size = gx at *
   generalize wr.alloc (.cells CX 49) = wb at *
   obtain ⟨q0, -, -, -, q4⟩ := StrB GX.out BX
   cases d_pub with
   | false =>
    have hno : Shut (¬ P) := shut (fun h => by have h2 := ((HP.out.1 h).1 _ (List.mem_of_getElem? HD.out)).1; cases h2)
    clear HP HD
    go_wp2_with fail
    go_ret
    exact tells_f hno.out KX
   | true =>
    by_cases hz : d_pos = 0
    rotate_left
    ·have hno : Shut (¬ P) := shut (fun h => by have h2 := ((HP.out.1 h).1 _ (List.mem_of_getElem? HD.out)).2; exact hz h2)
     have z1 : (d_pos != 0) = true := by simp [hz]
     have z2 : (d_pos == 0) = false := by simp [hz]
     clear HP HD
     go_wp2_with fail
     go_ret
     exact tells_f hno.out KX
    subst hz
    have HT2 : Shut (∀ x ∈ s_structs.take (t + 1), OkSt x) := shut (all_take (P := OkSt) HD.out HT.out ⟨rfl, rfl⟩)
    clear HD 
    go_wp2_with fail
    go_roundw
    case rel => exact ⟨t + 1, by go_num, by omega, KX, BS2, HT2⟩
    case measure => simp [intOf]; omega
  ·obtain rfl : t = n1 := by omega
   obtain ⟨n1, rfl⟩ : ∃ n, n = t := ⟨_, rfl⟩
   have m1 : ¬ (n1 : Int) < n1 := by omega
   have HALL1 := shut (all_of_take (P := OkSt) HN1.out HT.out)
   clear HT
   have HBS2 := shut BSr
   have KW2 := KL
   clear BSr KL
   obtain ⟨w1, rfl⟩ : ∃ w1, w1 = wr := ⟨_, rfl⟩
   go_wp2_with fail
   go_loopw [6, 26] (fun s6 s26 wx => ∃ t : Nat, s26 = .int .i64 t ∧ t ≤ n2 ∧ Keeps Nothing w wx ∧ Blk wx gs CS 32 ∧ Shut (∀ x ∈ s_funcs.take t, OkFn x)) (fun _ s26 _ => n2 - (intOf s26).toNat)
   case atStart => exact ⟨0, rfl, Nat.zero_le _, KW2, HBS2.out, shut (by simp)⟩
   case round =>
    obtain ⟨t, rfl, ht, KL, BSr, HT⟩ := hrel
    clear HBS2 KW2
    obtain ⟨e0, e1, e2⟩ := SigB GS.out BSr
    by_cases hlt : t < n2
    ·obtain ⟨d, hd⟩ : ∃ d, s_funcs[t]? = some d := ⟨_, List.getElem?_eq_getElem (by rw [HN2.out]; exact hlt)⟩
     obtain ⟨g1, o1, rfl, -, cs1, l1, r1, i1⟩ := (H2.out.keeps KL (fun _ _ h => h) (fun _ h => h) (fun _ _ _ h => h.keeps KL (fun _ _ h => h) (fun _ h => h))).get hd
     have HD := shut hd
     clear hd
     have m0 : (0 : Int) ≤ t := by omega
     have m1 : (t : Int) < n2 := by omega
     have ag1 := agg_ok l1 i1.one
     obtain ⟨CX, hCX⟩ : ∃ C, C = cs1.toArray := ⟨_, rfl⟩
     obtain ⟨hk, ho⟩ := sub_of r1 l1
     rw [← hCX] at ag1 ho
     obtain ⟨d_pub, d_name, d_lives, d_params, d_result, d_body, d_pos⟩ := d
     obtain ⟨b2, k2, b3, k3, s4, b8, k8, hcs1, -, -, -, hty, hbd⟩ := i1
     simp only at hcs1 hbd
     have al4 := hty.len
     obtain ⟨nb, hnb⟩ : ∃ n, d_body.length = n := ⟨_, rfl⟩
     rw [hnb] at hcs1
     have hnb2 : nb ≤ 100000000 := by have := hbd.1; unfold bigN at this; omega
     clear hty hbd
     rw [hcs1] at hCX
     have GX := shut hCX
     clear hCX r1 hcs1
     have BX := blk_new wr CX 56
     have BS2 := blk_alloc BSr (.cells CX 56)
     have KX : Keeps Nothing w (wr.alloc (.cells CX 56)) := KL.alloc _
     go_upto_region 10 with fail
     clear hk ho ag1 KL BSr e0 e1 e2
     generalize wr.heap.size = gx at *
     generalize wr.alloc (.cells CX 56) = wb at *
     obtain ⟨q0, -, -, -, -, q8, q9⟩ := FunB al4 GX.out BX
     cases d_pub with
     | false =>
      have hno : Shut (¬ P) := shut (fun h => by have h2 := ((HP.out.1 h).2.1 _ (List.mem_of_getElem? HD.out)).1; cases h2)
      clear HP HD
      go_wp2_with fail
      go_ret
      exact tells_f hno.out KX
     | true =>
      by_cases hz : d_pos = 0
      rotate_left
      ·have hno : Shut (¬ P) := shut (fun h => by have h2 := ((HP.out.1 h).2.1 _ (List.mem_of_getElem? HD.out)).2.1; exact hz h2)
       have z1 : (d_pos != 0) = true := by simp [hz]
       have z2 : (d_pos == 0) = false := by simp [hz]
       clear HP HD
       go_wp2_with fail
       go_ret
       exact tells_f hno.out KX
      subst hz
      by_cases hb : nb = 0
      rotate_left
      ·have hno : Shut (¬ P) := shut (fun h => by have h2 := ((HP.out.1 h).2.1 _ (List.mem_of_getElem? HD.out)).2.2; simp only at h2; rw [h2] at hnb; exact hb hnb.symm)
       have z1 : ((nb : Int) != 0) = true := by simp [hb]
       have z2 : ((nb : Int) == 0) = false := by simp [hb]
       have z3 : (0 : Int) < nb := by omega
       clear HP HD hnb
       go_wp2_with fail
       go_ret
       exact tells_f hno.out KX
      subst hb
      have HT2 : Shut (∀ x ∈ s_funcs.take (t + 1), OkFn x) := shut (all_take (P := OkFn) HD.out HT.out ⟨rfl, rfl, List.eq_nil_of_length_eq_zero hnb⟩)
      clear HD hnb
      go_wp2_with fail
      go_roundw
      case rel => exact ⟨t + 1, by go_num, by omega, KX, BS2, HT2⟩
      case measure => simp [intOf]; omega
    ·obtain rfl : t = n2 := by omega
     obtain ⟨n2, rfl⟩ : ∃ n, n = t := ⟨_, rfl⟩
     have m1 : ¬ (n2 : Int) < n2 := by omega
     have HALL2 := shut (all_of_take (P := OkFn) HN2.out HT.out)
     clear HT
     have hlen : s_name.length < 9223372036854775808 := by omega
     have hc1 := lname_any wr s_name (by omega)
     obtain ⟨z1, hz1⟩ : ∃ z, isName s_name = z := ⟨_, rfl⟩
     rw [hz1] at hc1 HP
     clear hz1
     go_wp2_with fail
     refine hc1.mono ?_
     rintro e w3 ⟨rfl, hw3⟩
     obtain rfl : w3 = wr := hw3
     clear hc1 e0 e1 e2 
     obtain ⟨e0, e1, e2⟩ := SigB GS.out BSr
     cases z1 with
     | false =>
      have hno : Shut (¬ P) := shut (fun h => by have h2 := (HP.out.1 h).2.2.1; cases h2)
      clear HP
      go_wp2_with fail
      go_ret
      exact tells_f hno.out KL
     | true =>
      have hcr : CrIs S w3 ⟨s_structs, s_funcs⟩ [.slice a1 n1 c1, .slice a2 n2 c2] := ⟨a1, c1, a2, c2, by rw [HN1.out, HN2.out], H1.out.keeps KL (fun _ _ h => h) (fun _ h => h) (fun _ _ _ h => h.keeps KL (fun _ _ h => h) (fun _ h => h)), H2.out.keeps KL (fun _ _ h => h) (fun _ h => h) (fun _ _ _ h => h.keeps KL (fun _ _ h => h) (fun _ h => h))⟩
      have hc2 := may_any ⟨s_structs, s_funcs⟩ w3 (HM.out.keeps KL) _ hcr
      clear hcr
      go_wp2_with fail
      refine hc2.mono ?_
      rintro e w4 ⟨⟨z2, rfl, hz2⟩, k4⟩
      have hF : Shut (Tells w P (.returned (.bool z2)) w4) := shut (tells_z (hz2.trans ⟨fun h => HP.out.2 ⟨HALL1.out, HALL2.out, (by first | rfl | trivial), h⟩, fun h => (HP.out.1 h).2.2.2⟩) (KL.trans k4 (fun _ h _ => h)))
      clear hc2 hz2 HP HALL1 HALL2 e0 e1 e2
      go_wp2_with fail
      go_ret
      exact hF.out
end Go.Proofs.YtjbcagbnagefcaaGreat
namespace Go.Proofs.YtjbcagbnagefcaaGreat
open Go.RowKit
attribute [local go_sem ↓] exec_mid_ty exec_store_ty exec_mid_pl exec_store_pl exec_mid_opr exec_store_opr exec_mid_val exec_store_val exec_mid_st exec_store_st exec_mid_fld exec_store_fld exec_mid_str exec_store_str exec_mid_lif exec_store_lif exec_mid_fun exec_store_fun exec_mid_cr exec_store_cr
attribute [local go_sem] rowOk_new World.setRow_alloc_new
theorem info_str : (Tryz.prog.info? 9).map (fun i => (i.zero, i.size, i.bytes)) = some (some (.string ⟨#[]⟩), 1, 16) := by kernel_rfl
theorem info_parts3 {P : Program} {e : TypeId} {z : Value} {s b : Nat} (h : (P.info? e).map (fun i => (i.zero, i.size, i.bytes)) = some (some z, s, b)) : ∃ i, P.info? e = some i ∧ i.zero = some z ∧ i.size = s ∧ i.bytes = b := by
 cases hi : P.info? e with
 | none => rw [hi] at h; cases h
 | some i =>
  rw [hi] at h
  simp only [Option.map_some, Option.some.injEq, Prod.mk.injEq] at h
  exact ⟨i, rfl, h.1, h.2.1, h.2.2⟩
theorem wpList_appZ (w : World) {ops : Array Oper} {rest : List Oper} {o : Oper} {a : Act} {Q : Exit → Act → World → Prop} (hgd : o.guard = none) (s x : Operand)
  (ho : o.op = .call { callee := .builtin .append, args := #[s, x], argTypes := #[34, 34] })
  (ao : Option Addr) (cap : Nat) (vs : List Value) (n : Nat) (hn : vs.length = n) (hsv : a.eval s = .slice ao n cap) (hr : RowR w 9 ao cap vs) (xv : Value) (m : Nat) (news : List Value)
  (hx : a.eval x = xv) (hs : Src Tryz.prog 1 34 xv m news w) (hb : n ≤ 1000000000) (hm : m ≤ 1000000000)
  (h : ∀ ao' cap' w', RowR w' 9 ao' cap' (vs ++ news) → RowR w' 9 ao cap vs → Keeps (fun k => blockOf ao = some k) w w' → Moved w.heap.size ao ao' → wpList Tryz.prog ops Q rest (a.put o.dst (.slice ao' (n + m) cap')) w') : wpList Tryz.prog ops Q (o :: rest) a w := by
 obtain ⟨i0, hi, hz0, hz1, hz2⟩ := info_parts3 info_str
 exact wpList_append_row w hgd s x 34 34 ho 9 i0 (.string ⟨#[]⟩) 16 Tryz.underlying34 hi hz0 hz1 hz2 rfl ao n cap vs hn hsv hr xv m news hx hs (by unfold maxLen; omega) (by omega) h
theorem src_str1 {w : World} {g : Nat} {x : ByteArray} (h : Blk w g #[.string x] 9) : Src Tryz.prog 1 34 (.slice (some ⟨g, 0, none⟩) 1 1) 1 [.string x] w :=
 Src.ofSlice _ Tryz.underlying34 ⟨g, 0, none⟩ 1 1 _ rfl (fun t u hu => by
  rw [ad_mid, Nat.zero_add]
  exact blk_cell h t (by simpa using hu)) (by intro u hu; simp at hu; subst hu; rfl)
end Go.Proofs.YtjbcagbnagefcaaGreat
namespace Go.Proofs.YtjbcagbnagefcaaGreat
open Go.RowKit
attribute [local go_sem ↓] exec_mid_ty exec_store_ty exec_mid_pl exec_store_pl exec_mid_opr exec_store_opr exec_mid_val exec_store_val exec_mid_st exec_store_st exec_mid_fld exec_store_fld exec_mid_str exec_store_str exec_mid_lif exec_store_lif exec_mid_fun exec_store_fun exec_mid_cr exec_store_cr
attribute [local go_sem] rowOk_new World.setRow_alloc_new
end Go.Proofs.YtjbcagbnagefcaaGreat
