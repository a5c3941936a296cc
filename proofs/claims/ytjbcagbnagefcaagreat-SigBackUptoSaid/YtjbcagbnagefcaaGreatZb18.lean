/- TrD -/
import Derived.Test.YtjbcagbnagefcaaGreatZb7
import Derived.Test.YtjbcagbnagefcaaGreatZb16
import Derived.Test.YtjbcagbnagefcaaGreatZb17
namespace Go.Proofs.YtjbcagbnagefcaaGreat
open Go.RowKit
attribute [local go_sem ↓] exec_mid_ty exec_store_ty exec_mid_pl exec_store_pl exec_mid_opr exec_store_opr exec_mid_val exec_store_val exec_mid_st exec_store_st exec_mid_fld exec_store_fld exec_mid_str exec_store_str exec_mid_lif exec_store_lif exec_mid_fun exec_store_fun exec_mid_cr exec_store_cr
attribute [local go_sem] rowOk_new World.setRow_alloc_new
theorem build_ty0 (ρ : Operand → Value) (dst : Option Tmp) (ty' : TypeId) (pos : String) (af : Array Edge) (gd : Option (Nat × Bool)) (w : World) :
  (execOp ρ ⟨dst, .build 53 #[], ty', pos, af, gd⟩).run Tryz.prog w = .ok (.value (.agg #[.int .i64 0, .string ⟨#[]⟩, .slice none 0 0, .slice none 0 0])) w := by
 kernel_rfl
attribute [local go_sem ↓] build_ty0
theorem resP_iff (t : TyD) : ResP t ↔ t = zeroTy ∨ TyP t 1 := by
 obtain ⟨k, n, l, e⟩ := t
 unfold ResP zeroTy
 simp [TyD.kind, TyD.name, TyD.lives, TyD.elem]
set_option maxRecDepth 100000 in
set_option linter.unusedSimpArgs false in
set_option maxHeartbeats 8000000 in
theorem rfunc_any {S : Nat → Prop} (a : FunD) (w : World) (cs : List Value) (ha : FunIs S w a cs) : Calls Tryz.prog 48 #[.agg cs.toArray] w (Tells w (FunP a)) := by
 obtain ⟨a_pub, a_name, a_lives, a_params, a_result, a_body, a_pos⟩ := a
 have HP : Shut (FunP ⟨a_pub, a_name, a_lives, a_params, a_result, a_body, a_pos⟩ ↔ (∀ l ∈ a_lives, LifP l) ∧ isName a_name = true ∧ a_lives.length ≤ 64 ∧ FldsP a_params true ∧ ResP a_result ∧ BlP a_body 1 ∧ IntKind.i64.wrap (cntL a_body : Int) ≤ 2000) := shut Iff.rfl
 obtain ⟨X, hX⟩ : ∃ X, X = FunP ⟨a_pub, a_name, a_lives, a_params, a_result, a_body, a_pos⟩ := ⟨_, rfl⟩
 rw [← hX] at HP ⊢
 clear hX
 have ag1 := agg_ok ha.len ha.one
 obtain ⟨p2, q2, p3, q3, s4, p8, q8, hcs, ah_name, ah_lives, ah_params, ah_result, ah_body⟩ := ha
 have HCA := shut hcs
 clear hcs
 simp only at ah_name ah_lives ah_params ah_result ah_body HCA
 obtain ⟨CA, hCA⟩ : ∃ C, C = cs.toArray := ⟨_, rfl⟩
 rw [← hCA] at ag1 ⊢
 rw [HCA.out] at hCA
 have GCA := shut hCA
 clear hCA HCA
 have al_result := ah_result.len
 have KW : Keeps Nothing w (w.alloc (.cells CA 56)) := (Keeps.refl Nothing w).alloc _
 have BA := blk_new w CA 56
 go_enter Tryz.func48, Tryz.ntmps48
 go_upto_region 1 with fail
 clear ag1
 generalize w.heap.size = ga at *
 generalize w.alloc (.cells CA 56) = wb at *
 obtain ⟨n, hn⟩ : ∃ n, a_lives.length = n := ⟨_, rfl⟩
 have hnb : n ≤ bigN := by rw [← hn]; exact ah_lives.1
 unfold bigN at hnb
 rw [hn] at GCA HP
 have HN := shut hn
 clear hn
 obtain ⟨-, ae1, -, -, -, -, -⟩ := FunB al_result GCA.out BA
 unfold txV at *
 have hcn := rname_any wb a_name (by unfold bigN at ah_name; omega)
 obtain ⟨z1, hz1⟩ : ∃ z, isName a_name = z := ⟨_, rfl⟩
 rw [hz1] at hcn
 try dsimp only
 repeat (first | rw [if_neg Bool.false_ne_true] | go_values | go_skip | go_guarded | go_step | go_upon | go_back)
 refine hcn.mono ?_
 rintro e w1 ⟨rfl, k1⟩
 have KW := KW.trans k1 (fun _ h _ => h)
 have BA := k1.blk BA (fun h => h)
 clear hcn k1 ae1
 try dsimp only
 cases z1 with
 | false =>
  have hno : Shut (¬ X) := shut (fun h => by have h2 := (HP.out.1 h).2.1; rw [hz1] at h2; cases h2)
  clear HP
  repeat (first | rw [if_neg Bool.false_ne_true] | go_values | go_skip | go_guarded | go_step | go_upon | go_back)
  go_ret
  exact tells_f hno.out KW
 | true =>
  obtain ⟨-, -, ae2, -, -, -, -⟩ := FunB al_result GCA.out BA
  by_cases h64 : n ≤ 64
  rotate_left
  ·have m2 : 64 < (n : Int) := by omega
   have hno : Shut (¬ X) := shut (fun h => by exact h64 (HP.out.1 h).2.2.1)
   clear HP
   repeat (first | rw [if_neg Bool.false_ne_true] | go_values | go_skip | go_guarded | go_step | go_upon | go_back)
   go_ret
   exact tells_f hno.out KW
  have m2 : ¬ 64 < (n : Int) := by omega
  obtain ⟨-, -, -, ae3, -, -, -⟩ := FunB al_result GCA.out BA
  have hc := rparts_any w1 q3 true (ah_params.keeps KW (fun _ _ h => h) (fun _ h => h) (fun _ _ _ h => h.keeps KW (fun _ _ h => h) (fun _ h => h)))
  try dsimp only
  repeat (first | rw [if_neg Bool.false_ne_true] | go_values | go_skip | go_guarded | go_step | go_upon | go_back)
  refine hc.mono ?_
  rintro e w2 ⟨⟨z2, rfl, hz2⟩, k2⟩
  have KW := KW.trans k2 (fun _ h _ => h)
  have BA := k2.blk BA (fun h => h)
  clear hc k2 ae2 ae3 m2
  try dsimp only
  cases z2 with
  | false =>
   have hno : Shut (¬ X) := shut (fun h => by have h2 := hz2.2 (HP.out.1 h).2.2.2.1; cases h2)
   clear HP
   repeat (first | rw [if_neg Bool.false_ne_true] | go_values | go_skip | go_guarded | go_step | go_upon | go_back)
   go_ret
   exact tells_f hno.out KW
  | true =>
   have HF := shut (hz2.1 rfl)
   clear hz2
   go_wp2_with fail
   go_loopw [3] (fun s3 wx => ∃ t : Nat, s3 = .int .i64 t ∧ t ≤ n ∧ Keeps Nothing w2 wx ∧ Shut (∀ l ∈ a_lives.take t, LifP l)) (fun s3 _ => n - (intOf s3).toNat)
   case atStart => exact ⟨0, rfl, Nat.zero_le _, Keeps.refl _ _, shut (by simp)⟩
   case round =>
    obtain ⟨t, rfl, ht, KL, HT⟩ := hrel
    have BA := KL.blk BA (fun h => h)
    have KW := KW.trans KL (fun _ h _ => h)
    obtain ⟨-, -, ae2, -, -, -, -⟩ := FunB al_result GCA.out BA
    by_cases hlt : t < n
    ·obtain ⟨a, ha⟩ : ∃ a, a_lives[t]? = some a := ⟨_, List.getElem?_eq_getElem (by rw [HN.out]; exact hlt)⟩
     obtain ⟨g1, o1, rfl, -, cs2, l1, r1, hi⟩ := (ah_lives.keeps KW (fun _ _ h => h) (fun _ h => h) (fun _ _ _ h => h.keeps KW (fun _ _ h => h) (fun _ h => h))).get ha
     have HA := shut ha
     clear ha
     have m0 : (0 : Int) ≤ t := by omega
     have m1 : (t : Int) < n := by omega
     obtain ⟨l_name, l_over⟩ := a
     obtain ⟨p1, q1, hcs, lh_name, lh_over⟩ := hi
     rw [hcs] at r1
     simp only at lh_name lh_over r1
     obtain ⟨le0, le1⟩ := LifR r1
     unfold txV at le0
     clear r1 hcs l1
     have HP2 : Shut (LifP ⟨l_name, l_over⟩ ↔ isLife l_name = true ∧ LivesP l_over) := shut Iff.rfl
     obtain ⟨Y, hY⟩ : ∃ Y, Y = (⟨l_name, l_over⟩ : LifD) := ⟨_, rfl⟩
     rw [← hY] at HP2 HA
     clear hY
     have hout : Shut (¬ LifP Y → ¬ X) := shut (fun h h2 => h ((HP.out.1 h2).1 Y (List.mem_of_getElem? HA.out)))
     have h1 := rlife_any wr l_name (by unfold bigN at lh_name; omega)
     obtain ⟨z1, hz1⟩ : ∃ z, isLife l_name = z := ⟨_, rfl⟩
     rw [hz1] at h1
     go_wp2_with fail
     refine h1.mono ?_
     rintro e w3 ⟨rfl, rfl⟩
     clear h1
     cases z1 with
     | false =>
      have hno := shut (hout.out (fun h => by have h2 := (HP2.out.1 h).1; rw [hz1] at h2; cases h2))
      clear HP HP2 hout
      go_wp2_with fail
      go_ret
      exact tells_f hno.out KW
     | true =>
      have hc := rlives_any w3 q1 lh_over
      go_wp2_with fail
      refine hc.mono ?_
      rintro e w4 ⟨⟨z, rfl, hz⟩, k4⟩
      have KW := KW.trans k4 (fun _ h _ => h)
      have KL := KL.trans k4 (fun _ h _ => h)
      clear hc le0 le1 k4 ae2
      cases z with
      | false =>
       have hno := shut (hout.out (fun h => by have h2 := hz.2 (HP2.out.1 h).2; cases h2))
       clear HP HP2 hout hz
       go_wp2_with fail
       go_ret
       exact tells_f hno.out KW
      | true =>
       have HT2 := shut (all_take HA.out HT.out (HP2.out.2 ⟨hz1, hz.1 rfl⟩))
       clear HP2 hout hz
       go_wp2_with fail
       go_roundw
       case rel => exact ⟨t + 1, by go_num, by omega, KL, HT2⟩
       case measure => simp [intOf]; omega
    ·obtain rfl : t = n := by omega
     have m1 : ¬ (t : Int) < t := by omega
     have HALL := shut (all_of_take HN.out HT.out)
     have HP1 : Shut (X ↔ ResP a_result ∧ BlP a_body 1 ∧ IntKind.i64.wrap (cntL a_body : Int) ≤ 2000) := shut (HP.out.trans ⟨fun h => h.2.2.2.2, fun h => ⟨HALL.out, hz1, h64, HF.out, h⟩⟩)
     clear HALL HT HF HP
     have HP := HP1
     clear HP1
     go_upto_region 8 with fail
     clear ae2
     obtain ⟨-, -, -, -, ⟨ae4, af4⟩, -, -⟩ := FunB al_result GCA.out BA
     have hc0 := rsameType_any a_result zeroTy wr s4 tyC (ah_result.keeps KW (fun _ _ h => h) (fun _ h => h)) (zeroTy_is S wr)
     have hcs : Calls Tryz.prog 72 #[.agg s4.toArray, .agg #[.int .i64 0, .string ⟨#[]⟩, .slice none 0 0, .slice none 0 0]] wr (Tells wr (a_result = zeroTy)) := hc0
     clear hc0
     have HR := shut (resP_iff a_result)
     have hc := hcs
     try dsimp only
     repeat (first | rw [if_neg Bool.false_ne_true] | go_values | go_skip | go_guarded | go_step | go_upon | go_back)
     refine hc.mono ?_
     rintro e w3 ⟨⟨z3, rfl, hz3⟩, k3⟩
     have KW := KW.trans k3 (fun _ h _ => h)
     have BA := k3.blk BA (fun h => h)
     clear hc k3 ae4 af4
     try dsimp only
     clear hcs
     cases z3 with
     | true =>
      have HR1 := shut (HR.out.2 (.inl (hz3.1 rfl)))
      clear HR hz3
      obtain ⟨-, -, -, -, -, ae8, -⟩ := FunB al_result GCA.out BA
      have hc := rst_all (S := S) a_body w3 p8 q8 1 (by omega) (by omega) (ah_body.keeps KW (fun _ _ h => h) (fun _ h => h) (fun _ _ _ h => h.keeps KW (fun _ _ h => h) (fun _ h => h)))
      try dsimp only
      repeat (first | rw [if_neg Bool.false_ne_true] | go_values | go_skip | go_guarded | go_step | go_upon | go_back)
      refine hc.mono ?_
      rintro e w6 ⟨⟨z6, rfl, hz6⟩, k6⟩
      have KW := KW.trans k6 (fun _ h _ => h)
      have BA := k6.blk BA (fun h => h)
      clear hc k6 ae8
      try dsimp only
      cases z6 with
      | false =>
       have hno : Shut (¬ X) := shut (fun h => by have h2 := hz6.2 (HP.out.1 h).2.1; cases h2)
       clear HP
       repeat (first | rw [if_neg Bool.false_ne_true] | go_values | go_skip | go_guarded | go_step | go_upon | go_back)
       go_ret
       exact tells_f hno.out KW
      | true =>
       obtain ⟨-, -, -, -, -, ae8, -⟩ := FunB al_result GCA.out BA
       have hc := rcount_any (S := S) a_body w6 p8 q8 (ah_body.keeps KW (fun _ _ h => h) (fun _ h => h) (fun _ _ _ h => h.keeps KW (fun _ _ h => h) (fun _ h => h)))
       try dsimp only
       repeat (first | rw [if_neg Bool.false_ne_true] | go_values | go_skip | go_guarded | go_step | go_upon | go_back)
       refine hc.mono ?_
       rintro e w7 ⟨⟨z7, rfl, hz7⟩, k7⟩
       have KW := KW.trans k7 (fun _ h _ => h)
       clear hc k7 ae8
       try dsimp only
       have hz : Shut (decide (z7 ≤ 2000) = true ↔ X) := shut (by
        rw [HP.out, decide_eq_true_iff, ← hz7.out]
        exact ⟨fun h => ⟨HR1.out, hz6.1 (by first | rfl | trivial), h⟩, fun h => h.2.2⟩)
       clear HP hz7 hz6
       repeat (first | rw [if_neg Bool.false_ne_true] | go_values | go_skip | go_guarded | go_step | go_upon | go_back)
       go_ret
       exact tells_z hz.out KW
     | false =>
      obtain ⟨-, -, -, -, ⟨ae4, af4⟩, -, -⟩ := FunB al_result GCA.out BA
      have hc := rkind_any a_result w3 s4 1 (by omega) (by omega) (ah_result.keeps KW (fun _ _ h => h) (fun _ h => h))
      try dsimp only
      repeat (first | rw [if_neg Bool.false_ne_true] | go_values | go_skip | go_guarded | go_step | go_upon | go_back)
      refine hc.mono ?_
      rintro e w4 ⟨⟨z4, rfl, hz4⟩, k4⟩
      have KW := KW.trans k4 (fun _ h _ => h)
      have BA := k4.blk BA (fun h => h)
      clear hc k4 ae4 af4
      try dsimp only
      cases z4 with
      | false =>
       have hno : Shut (¬ X) := shut (fun h => by exact (HR.out.1 (HP.out.1 h).1).elim (fun h2 => absurd (hz3.2 h2) (by decide)) (fun h2 => absurd (hz4.2 h2) (by decide)))
       clear HP
       repeat (first | rw [if_neg Bool.false_ne_true] | go_values | go_skip | go_guarded | go_step | go_upon | go_back)
       go_ret
       exact tells_f hno.out KW
      | true =>
       have HR1 := shut (HR.out.2 (.inr (hz4.1 rfl)))
       clear HR hz3 hz4
       obtain ⟨-, -, -, -, -, ae8, -⟩ := FunB al_result GCA.out BA
       have hc := rst_all (S := S) a_body w4 p8 q8 1 (by omega) (by omega) (ah_body.keeps KW (fun _ _ h => h) (fun _ h => h) (fun _ _ _ h => h.keeps KW (fun _ _ h => h) (fun _ h => h)))
       try dsimp only
       repeat (first | rw [if_neg Bool.false_ne_true] | go_values | go_skip | go_guarded | go_step | go_upon | go_back)
       refine hc.mono ?_
       rintro e w6 ⟨⟨z6, rfl, hz6⟩, k6⟩
       have KW := KW.trans k6 (fun _ h _ => h)
       have BA := k6.blk BA (fun h => h)
       clear hc k6 ae8
       try dsimp only
       cases z6 with
       | false =>
        have hno : Shut (¬ X) := shut (fun h => by have h2 := hz6.2 (HP.out.1 h).2.1; cases h2)
        clear HP
        repeat (first | rw [if_neg Bool.false_ne_true] | go_values | go_skip | go_guarded | go_step | go_upon | go_back)
        go_ret
        exact tells_f hno.out KW
       | true =>
        obtain ⟨-, -, -, -, -, ae8, -⟩ := FunB al_result GCA.out BA
        have hc := rcount_any (S := S) a_body w6 p8 q8 (ah_body.keeps KW (fun _ _ h => h) (fun _ h => h) (fun _ _ _ h => h.keeps KW (fun _ _ h => h) (fun _ h => h)))
        try dsimp only
        repeat (first | rw [if_neg Bool.false_ne_true] | go_values | go_skip | go_guarded | go_step | go_upon | go_back)
        refine hc.mono ?_
        rintro e w7 ⟨⟨z7, rfl, hz7⟩, k7⟩
        have KW := KW.trans k7 (fun _ h _ => h)
        clear hc k7 ae8
        try dsimp only
        have hz : Shut (decide (z7 ≤ 2000) = true ↔ X) := shut (by
         rw [HP.out, decide_eq_true_iff, ← hz7.out]
         exact ⟨fun h => ⟨HR1.out, hz6.1 (by first | rfl | trivial), h⟩, fun h => h.2.2⟩)
        clear HP hz7 hz6
        repeat (first | rw [if_neg Bool.false_ne_true] | go_values | go_skip | go_guarded | go_step | go_upon | go_back)
        go_ret
        exact tells_z hz.out KW
end Go.Proofs.YtjbcagbnagefcaaGreat
namespace Go.Proofs.YtjbcagbnagefcaaGreat
open Go.RowKit
attribute [local go_sem ↓] exec_mid_ty exec_store_ty exec_mid_pl exec_store_pl exec_mid_opr exec_store_opr exec_mid_val exec_store_val exec_mid_st exec_store_st exec_mid_fld exec_store_fld exec_mid_str exec_store_str exec_mid_lif exec_store_lif exec_mid_fun exec_store_fun exec_mid_cr exec_store_cr
attribute [local go_sem] rowOk_new World.setRow_alloc_new
set_option maxRecDepth 100000 in
set_option linter.unusedSimpArgs false in
set_option maxHeartbeats 8000000 in
theorem rmay_any {S : Nat → Prop} (a : CrD) (w : World) (cs : List Value) (ha : CrIs S w a cs) : Calls Tryz.prog 16 #[.agg cs.toArray] w (Tells w (CrP a)) := by
 obtain ⟨a_structs, a_funcs⟩ := a
 have HP : Shut (CrP ⟨a_structs, a_funcs⟩ ↔ a_structs.length + a_funcs.length ≤ 256 ∧ (∀ s ∈ a_structs, StrP s) ∧ (∀ f ∈ a_funcs, FunP f)) := shut Iff.rfl
 obtain ⟨X, hX⟩ : ∃ X, X = CrP ⟨a_structs, a_funcs⟩ := ⟨_, rfl⟩
 rw [← hX] at HP ⊢
 clear hX
 have ag1 := agg_ok ha.len ha.one
 obtain ⟨p0, q0, p1, q1, hcs, ah_structs, ah_funcs⟩ := ha
 have HCA := shut hcs
 clear hcs
 simp only at ah_structs ah_funcs HCA
 obtain ⟨CA, hCA⟩ : ∃ C, C = cs.toArray := ⟨_, rfl⟩
 rw [← hCA] at ag1 ⊢
 rw [HCA.out] at hCA
 have GCA := shut hCA
 clear hCA HCA
 have KW : Keeps Nothing w (w.alloc (.cells CA 26)) := (Keeps.refl Nothing w).alloc _
 have BA := blk_new w CA 26
 go_enter Tryz.func16, Tryz.ntmps16
 go_upto_region 1 with fail
 clear ag1
 generalize w.heap.size = ga at *
 generalize w.alloc (.cells CA 26) = wb at *
 obtain ⟨n, hn⟩ : ∃ n, a_structs.length = n := ⟨_, rfl⟩
 have hnb : n ≤ bigN := by rw [← hn]; exact ah_structs.1
 obtain ⟨m, hm⟩ : ∃ m, a_funcs.length = m := ⟨_, rfl⟩
 have hmb : m ≤ bigN := by rw [← hm]; exact ah_funcs.1
 unfold bigN at hnb hmb
 rw [hn, hm] at GCA HP
 have Hn := shut hn
 have Hm := shut hm
 clear hn hm
 obtain ⟨ae0, ae1⟩ := CrB  GCA.out BA
 by_cases hn6 : n ≤ 256
 rotate_left
 ·have m2 : 256 < (n : Int) := by omega
  have hno : Shut (¬ X) := shut (fun h => by have := (HP.out.1 h).1; omega)
  clear HP
  repeat (first | rw [if_neg Bool.false_ne_true] | go_values | go_skip | go_guarded | go_step | go_upon | go_back)
  go_ret
  exact tells_f hno.out KW
 have m2 : ¬ 256 < (n : Int) := by omega
 have wn : IntKind.i64.wrap (256 - (n : Int)) = 256 - (n : Int) := by rw [IntKind.wrap_i64]; omega
 by_cases hm6 : n + m ≤ 256
 rotate_left
 ·have m3 : 256 - (n : Int) < (m : Int) := by omega
  have hno : Shut (¬ X) := shut (fun h => by exact hm6 (HP.out.1 h).1)
  clear HP
  repeat (first | rw [if_neg Bool.false_ne_true] | go_values | go_skip | go_guarded | go_step | go_upon | go_back)
  go_ret
  exact tells_f hno.out KW
 have m3 : ¬ 256 - (n : Int) < (m : Int) := by omega
 have HP1 : Shut (X ↔ (∀ s ∈ a_structs, StrP s) ∧ (∀ f ∈ a_funcs, FunP f)) := shut (HP.out.trans ⟨fun h => h.2, fun h => ⟨hm6, h⟩⟩)
 clear HP
 go_wp2_with fail
 clear m2 m3 wn hn6 hm6
 clear ae0 ae1
 go_loopw [3, 4] (fun s3 s4 wx => ∃ t : Nat, s3 = .int .i64 t ∧ t ≤ n ∧ Keeps Nothing wb wx ∧ Shut (∀ l ∈ a_structs.take t, StrP l)) (fun s3 _ _ => n - (intOf s3).toNat)
 case atStart => exact ⟨0, rfl, Nat.zero_le _, Keeps.refl _ _, shut (by simp)⟩
 case round =>
  obtain ⟨t, rfl, ht, KL, HT⟩ := hrel
  have BA := KL.blk BA (fun h => h)
  have KW := KW.trans KL (fun _ h _ => h)
  obtain ⟨ae0, -⟩ := CrB  GCA.out BA
  by_cases hlt : t < n
  ·skip
   obtain ⟨a, ha⟩ : ∃ a, a_structs[t]? = some a := ⟨_, List.getElem?_eq_getElem (by rw [Hn.out]; exact hlt)⟩
   obtain ⟨g1, o1, rfl, -, cs2, l1, r1, hi⟩ := (ah_structs.keeps KW (fun _ _ h => h) (fun _ h => h) (fun _ _ _ h => h.keeps KW (fun _ _ h => h) (fun _ h => h))).get ha
   have HA := shut ha
   clear ha
   have m0 : (0 : Int) ≤ t := by omega
   have m1 : (t : Int) < n := by omega
   have ag1 := agg_ok l1 hi.one
   obtain ⟨CB, hCB⟩ : ∃ C, C = cs2.toArray := ⟨_, rfl⟩
   obtain ⟨hk, ho⟩ := sub_of r1 l1
   rw [← hCB] at ag1 ho
   have HCB := shut hCB
   clear hCB r1 l1
   go_upto_region 7 with fail
   have ka : Keeps Nothing wr (wr.alloc (.cells CB 49)) := (Keeps.refl Nothing wr).alloc _
   have BL := blk_new wr CB 49
   have KL := KL.trans ka (fun _ h _ => h)
   have KW := KW.trans ka (fun _ h _ => h)
   have hi := hi.keeps ka (fun _ _ h => h) (fun _ h => h)
   clear hk ho ag1 ka ae0
   generalize wr.heap.size = gl at *
   generalize wr.alloc (.cells CB 49) = wl at *
   obtain ⟨s_pub, s_name, s_lives, s_fields, s_pos⟩ := a
   obtain ⟨p2, q2, p3, q3, hcs, sh_name, sh_lives, sh_fields⟩ := hi
   rw [hcs] at HCB
   simp only at sh_name sh_lives sh_fields HCB
   have GCB := HCB
   clear HCB hcs
   have HP2 : Shut (StrP ⟨s_pub, s_name, s_lives, s_fields, s_pos⟩ ↔ isName s_name = true ∧ LivesP s_lives ∧ FldsP s_fields false) := shut Iff.rfl
   obtain ⟨Y, hY⟩ : ∃ Y, Y = (⟨s_pub, s_name, s_lives, s_fields, s_pos⟩ : StrD) := ⟨_, rfl⟩
   rw [← hY] at HP2 HA
   clear hY
   have hout : Shut (¬ StrP Y → ¬ X) := shut (fun h h2 => h ((HP1.out.1 h2).1 Y (List.mem_of_getElem? HA.out)))
   have h1 := rname_any wl s_name (by unfold bigN at sh_name; omega)
   obtain ⟨z1, hz1⟩ : ∃ z, isName s_name = z := ⟨_, rfl⟩
   rw [hz1] at h1
   obtain ⟨-, be1, -, -, -⟩ := StrB GCB.out BL
   unfold txV at be1
   repeat (first | rw [if_neg Bool.false_ne_true] | go_values | go_skip | go_guarded | go_step | go_upon | go_back)
   refine h1.mono ?_
   rintro e w1 ⟨rfl, k1⟩
   have KL := KL.trans k1 (fun _ h _ => h)
   have KW := KW.trans k1 (fun _ h _ => h)
   have BL := k1.blk BL (fun h => h)
   have sh_lives := (sh_lives.keeps k1 (fun _ _ h => h) (fun _ h => h) (fun _ _ _ h => h))
   have sh_fields := (sh_fields.keeps k1 (fun _ _ h => h) (fun _ h => h) (fun _ _ _ h => h.keeps k1 (fun _ _ h => h) (fun _ h => h)))
   clear h1 k1 be1
   try dsimp only
   cases z1 with
   | false =>
    have hno := shut (hout.out (fun h => by have h2 := (HP2.out.1 h).1; rw [hz1] at h2; cases h2))
    clear HP1 HP2 hout
    repeat (first | rw [if_neg Bool.false_ne_true] | go_values | go_skip | go_guarded | go_step | go_upon | go_back)
    go_ret
    exact tells_f hno.out KW
   | true =>
    obtain ⟨-, -, be2, -, -⟩ := StrB GCB.out BL
    have hc := rlives_any w1 q2 sh_lives
    repeat (first | rw [if_neg Bool.false_ne_true] | go_values | go_skip | go_guarded | go_step | go_upon | go_back)
    refine hc.mono ?_
    rintro e w2 ⟨⟨z2, rfl, hz2⟩, k2⟩
    have KL := KL.trans k2 (fun _ h _ => h)
    have KW := KW.trans k2 (fun _ h _ => h)
    have BL := k2.blk BL (fun h => h)
    have sh_fields := (sh_fields.keeps k2 (fun _ _ h => h) (fun _ h => h) (fun _ _ _ h => h.keeps k2 (fun _ _ h => h) (fun _ h => h)))
    clear hc k2 be2
    try dsimp only
    cases z2 with
    | false =>
     have hno := shut (hout.out (fun h => by have h2 := hz2.2 (HP2.out.1 h).2.1; cases h2))
     clear HP1 HP2 hout hz2
     repeat (first | rw [if_neg Bool.false_ne_true] | go_values | go_skip | go_guarded | go_step | go_upon | go_back)
     go_ret
     exact tells_f hno.out KW
    | true =>
     have HL2 := shut (hz2.1 (by first | rfl | trivial))
     clear hz2
     obtain ⟨-, -, -, be3, -⟩ := StrB GCB.out BL
     have hc := rparts_any w2 q3 false sh_fields
     repeat (first | rw [if_neg Bool.false_ne_true] | go_values | go_skip | go_guarded | go_step | go_upon | go_back)
     refine hc.mono ?_
     rintro e w3 ⟨⟨z3, rfl, hz3⟩, k3⟩
     have KL := KL.trans k3 (fun _ h _ => h)
     have KW := KW.trans k3 (fun _ h _ => h)
     clear hc k3 be3 BL
     try dsimp only
     cases z3 with
     | false =>
      have hno := shut (hout.out (fun h => by have h2 := hz3.2 (HP2.out.1 h).2.2; cases h2))
      clear HP1 HP2 hout hz3
      repeat (first | rw [if_neg Bool.false_ne_true] | go_values | go_skip | go_guarded | go_step | go_upon | go_back)
      go_ret
      exact tells_f hno.out KW
     | true =>
      have HT2 := shut (all_take HA.out HT.out (HP2.out.2 ⟨hz1, HL2.out, hz3.1 (by first | rfl | trivial)⟩))
      clear HP2 hout hz3 hz1
      go_wp2_with fail
      go_roundw
      case rel => exact ⟨t + 1, by go_num, by omega, KL, HT2⟩
      case measure => simp [intOf]; omega
  ·obtain rfl : t = n := by omega
   have m1 : ¬ (t : Int) < t := by omega
   have HALL := shut (all_of_take Hn.out HT.out)
   have HP2 : Shut (X ↔ ∀ f ∈ a_funcs, FunP f) := shut (HP1.out.trans ⟨fun h => h.2, fun h => ⟨HALL.out, h⟩⟩)
   clear HALL HT HP1
   go_wp2_with fail
   clear m1 ae0 KL
   go_loopw [5] (fun s5 wy => ∃ t : Nat, s5 = .int .i64 t ∧ t ≤ m ∧ Keeps Nothing wr wy ∧ Shut (∀ l ∈ a_funcs.take t, FunP l)) (fun s5 _ => m - (intOf s5).toNat)
   case atStart => exact ⟨0, rfl, Nat.zero_le _, Keeps.refl _ _, shut (by simp)⟩
   case round =>
    obtain ⟨t, rfl, ht, KL, HT⟩ := hrel
    have BA := KL.blk BA (fun h => h)
    have KW := KW.trans KL (fun _ h _ => h)
    obtain ⟨-, ae1⟩ := CrB  GCA.out BA
    by_cases hlt : t < m
    ·skip
     obtain ⟨a, ha⟩ : ∃ a, a_funcs[t]? = some a := ⟨_, List.getElem?_eq_getElem (by rw [Hm.out]; exact hlt)⟩
     obtain ⟨g1, o1, rfl, -, cs2, l1, r1, hi⟩ := (ah_funcs.keeps KW (fun _ _ h => h) (fun _ h => h) (fun _ _ _ h => h.keeps KW (fun _ _ h => h) (fun _ h => h))).get ha
     have HA := shut ha
     clear ha
     have m0 : (0 : Int) ≤ t := by omega
     have m1 : (t : Int) < m := by omega
     obtain ⟨f1, f2⟩ := sub_of r1 l1
     have hc := rfunc_any a wr cs2 hi
     clear hi r1
     generalize cs2.toArray = C1 at *
     go_wp2_with fail
     refine hc.mono ?_
     rintro e w1 ⟨⟨z, rfl, hz⟩, k1⟩
     have KL := KL.trans k1 (fun _ h _ => h)
     have KW := KW.trans k1 (fun _ h _ => h)
     clear hc k1 f1 f2 ae1
     cases z with
     | false =>
      have hno : Shut (¬ X) := shut (fun h => by have h2 := hz.2 (HP2.out.1 h a (List.mem_of_getElem? HA.out)); cases h2)
      clear hz HP2
      go_wp2_with fail
      go_ret
      exact tells_f hno.out KW
     | true =>
      have HT2 := shut (all_take HA.out HT.out (hz.1 rfl))
      clear hz
      go_wp2_with fail
      go_roundw
      case rel => exact ⟨t + 1, by go_num, by omega, KL, HT2⟩
      case measure => simp [intOf]; omega
    ·obtain rfl : t = m := by omega
     have m1 : ¬ (t : Int) < t := by omega
     have hy := shut (HP2.out.2 (all_of_take Hm.out HT.out))
     clear HP2
     go_wp2_with fail
     go_ret
     exact tells_t hy.out KW
def SomeB (w : World) (e : Ending) (w' : World) : Prop := (∃ z : Bool, e = .returned (.bool z)) ∧ Keeps Nothing w w'
set_option maxRecDepth 100000 in
set_option linter.unusedSimpArgs false in
set_option maxHeartbeats 8000000 in
theorem great_any {S : Nat → Prop} (a : CrD) (w : World) (cs : List Value) (ha : CrIs S w a cs) : Calls Tryz.prog 8 #[.agg cs.toArray] w (SomeB w) := by
 obtain ⟨a_structs, a_funcs⟩ := a
 have ag1 := agg_ok ha.len ha.one
 obtain ⟨p0, q0, p1, q1, hcs, ah_structs, ah_funcs⟩ := ha
 have HCA := shut hcs
 clear hcs
 simp only at ah_structs ah_funcs HCA
 obtain ⟨CA, hCA⟩ : ∃ C, C = cs.toArray := ⟨_, rfl⟩
 rw [← hCA] at ag1 ⊢
 rw [HCA.out] at hCA
 have GCA := shut hCA
 clear hCA HCA
 have KW : Keeps Nothing w (w.alloc (.cells CA 26)) := (Keeps.refl Nothing w).alloc _
 have BA := blk_new w CA 26
 go_enter Tryz.func8, Tryz.ntmps8
 go_upto_region 1 with fail
 clear ag1
 generalize w.heap.size = ga at *
 generalize w.alloc (.cells CA 26) = wb at *
 obtain ⟨n, hn⟩ : ∃ n, a_structs.length = n := ⟨_, rfl⟩
 have hnb : n ≤ bigN := by rw [← hn]; exact ah_structs.1
 obtain ⟨m, hm⟩ : ∃ m, a_funcs.length = m := ⟨_, rfl⟩
 have hmb : m ≤ bigN := by rw [← hm]; exact ah_funcs.1
 unfold bigN at hnb hmb
 rw [hn, hm] at GCA
 have Hm := shut hm
 clear hn hm
 obtain ⟨ae0, ae1⟩ := CrB  GCA.out BA
 by_cases hn3 : n ≤ 300
 rotate_left
 ·have m2 : 300 < (n : Int) := by omega
  repeat (first | rw [if_neg Bool.false_ne_true] | go_values | go_skip | go_guarded | go_step | go_upon | go_back)
  go_ret
  exact ⟨⟨_, rfl⟩, KW⟩
 have m2 : ¬ 300 < (n : Int) := by omega
 by_cases hm3 : m ≤ 300
 rotate_left
 ·have m3 : 300 < (m : Int) := by omega
  repeat (first | rw [if_neg Bool.false_ne_true] | go_values | go_skip | go_guarded | go_step | go_upon | go_back)
  go_ret
  exact ⟨⟨_, rfl⟩, KW⟩
 have m3 : ¬ 300 < (m : Int) := by omega
 go_wp2_with fail
 clear m2 m3 hn3 hm3
 clear ae0 ae1
 go_loopw [3] (fun s3 wx => ∃ t : Nat, s3 = .int .i64 t ∧ t ≤ m ∧ Keeps Nothing wb wx) (fun s3 _ => m - (intOf s3).toNat)
 case atStart => exact ⟨0, rfl, Nat.zero_le _, Keeps.refl _ _⟩
 case round =>
  obtain ⟨t, rfl, ht, KL⟩ := hrel
  have BA := KL.blk BA (fun h => h)
  have KW := KW.trans KL (fun _ h _ => h)
  obtain ⟨-, ae1⟩ := CrB  GCA.out BA
  by_cases hlt : t < m
  rotate_left
  ·obtain rfl : t = m := by omega
   have m1 : ¬ (t : Int) < t := by omega
   go_wp2_with fail
   go_ret
   exact ⟨⟨_, rfl⟩, KW⟩
  obtain ⟨a, ha⟩ : ∃ a, a_funcs[t]? = some a := ⟨_, List.getElem?_eq_getElem (by rw [Hm.out]; exact hlt)⟩
  obtain ⟨g1, o1, rfl, -, cs2, l1, r1, hi⟩ := (ah_funcs.keeps KW (fun _ _ h => h) (fun _ h => h) (fun _ _ _ h => h.keeps KW (fun _ _ h => h) (fun _ h => h))).get ha
  have HA := shut ha
  clear ha
  have m0 : (0 : Int) ≤ t := by omega
  have m1 : (t : Int) < m := by omega
  obtain ⟨f_pub, f_name, f_lives, f_params, f_result, f_body, f_pos⟩ := a
  obtain ⟨p2, q2, p3, q3, s4, p8, q8, hcs, fh_name, fh_lives, fh_params, fh_result, fh_body⟩ := hi
  rw [hcs] at r1
  simp only at fh_body fh_result r1
  have al_result := fh_result.len
  have R1 := shut r1
  clear hcs l1 r1 fh_lives fh_params fh_result fh_name HA
  have hlb := fh_body.1
  unfold bigN at hlb
  obtain ⟨-, -, -, -, -, be8, -⟩ := FunR al_result R1.out
  have hc := deep_any (S := S) f_body wr p8 q8 70 fh_body
  go_wp2_with fail
  refine hc.mono ?_
  rintro e w1 ⟨⟨z, rfl⟩, k1⟩
  have KL := KL.trans k1 (fun _ h _ => h)
  have KW := KW.trans k1 (fun _ h _ => h)
  have BA := k1.blk BA (fun h => h)
  have R1 := shut (rangeAt_keeps R1.out k1 (fun h => h))
  have fh_body := (fh_body.keeps k1 (fun _ _ h => h) (fun _ h => h) (fun _ _ _ h => h.keeps k1 (fun _ _ h => h) (fun _ h => h)))
  clear hc k1 be8 ae1
  try dsimp only
  by_cases hz : 68 < z
  ·skip
   repeat (first | rw [if_neg Bool.false_ne_true] | go_values | go_skip | go_guarded | go_step | go_upon | go_back)
   go_ret
   exact ⟨⟨_, rfl⟩, KW⟩
  obtain ⟨-, ae1⟩ := CrB  GCA.out BA
  obtain ⟨-, -, -, -, -, be8, -⟩ := FunR al_result R1.out
  by_cases hb : 2100 < (f_body.length : Int)
  ·skip
   repeat (first | rw [if_neg Bool.false_ne_true] | go_values | go_skip | go_guarded | go_step | go_upon | go_back)
   go_ret
   exact ⟨⟨_, rfl⟩, KW⟩
  have hc := rcount_any (S := S) f_body w1 p8 q8 fh_body
  repeat (first | rw [if_neg Bool.false_ne_true] | go_values | go_skip | go_guarded | go_step | go_upon | go_back)
  refine hc.mono ?_
  rintro e w2 ⟨⟨z2, rfl, -⟩, k2⟩
  have KL := KL.trans k2 (fun _ h _ => h)
  have KW := KW.trans k2 (fun _ h _ => h)
  clear hc k2 be8 ae1 hz hb
  try dsimp only
  by_cases hz2 : 2100 < z2
  ·skip
   repeat (first | rw [if_neg Bool.false_ne_true] | go_values | go_skip | go_guarded | go_step | go_upon | go_back)
   go_ret
   exact ⟨⟨_, rfl⟩, KW⟩
  go_wp2_with fail
  go_roundw
  case rel => exact ⟨t + 1, by go_num, by omega, KL⟩
  case measure => simp [intOf]; omega
end Go.Proofs.YtjbcagbnagefcaaGreat
