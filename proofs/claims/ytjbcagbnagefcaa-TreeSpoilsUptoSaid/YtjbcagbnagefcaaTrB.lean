/- Package tree: which functions, crates may be. Package tree: which crates may be. -/
import Derived.Test.YtjbcagbnagefcaaTrA
import Derived.Test.YtjbcagbnagefcaaTree19
namespace Go.Proofs.Ytjbcagbnagefcaa
open Go.RowKit

attribute [local go_sem ↓] exec_mid_ty exec_store_ty exec_mid_pl exec_store_pl exec_mid_opr exec_store_opr exec_mid_val exec_store_val exec_mid_st exec_store_st exec_mid_fld exec_store_fld exec_mid_str exec_store_str exec_mid_lif exec_store_lif exec_mid_fun exec_store_fun exec_mid_cr exec_store_cr
attribute [local go_sem] rowOk_new World.setRow_alloc_new

theorem ty_kind_cell {w w0 : World} {S : Nat → Prop} {g o : Nat} {v : TyD} {s : List Value} (h1 : midOk w g o 4 = true) (h2 : midOf w g o 4 = s.toArray) (hv : TyIs S w0 v s) : w.cell? ⟨g, o, none⟩ = some (.int .i64 v.kind) := by
  rw [tyIs_iff] at hv
  obtain ⟨p2, q2, p3, q3, rfl, -⟩ := hv
  have h := range_midOk h1
  rw [h2] at h
  exact h 0 _ rfl
def LifP (l : LifD) : Prop := isLife l.name = true ∧ LivesP l.over
/-- A result that may be: none, or a type. -/
def ResP (t : TyD) : Prop := (t.kind = 0 ∧ t.name = [] ∧ t.lives = [] ∧ t.elem = []) ∨ TyP t 1
/-- A function that may be. -/
def FunP (f : FunD) : Prop := (∀ l ∈ f.lives, LifP l) ∧ isName f.name = true ∧ f.lives.length ≤ 64 ∧ FldsP f.params true ∧ ResP f.result ∧ BlP f.body 1 ∧ IntKind.i64.wrap (cntL f.body : Int) ≤ 2000

set_option maxRecDepth 100000 in
set_option maxHeartbeats 8000000 in
theorem function_any {S : Nat → Prop} (a : FunD) (w : World) (hM : MaxV w) (cs : List Value) (ha : FunIs S w a cs) : Calls Try.prog 26 #[.agg cs.toArray] w (Tells w (FunP a)) := by
  obtain ⟨a_pub, a_name, a_lives, a_params, a_result, a_body, a_pos⟩ := a
  have HP : Shut (FunP ⟨a_pub, a_name, a_lives, a_params, a_result, a_body, a_pos⟩ ↔ (∀ l ∈ a_lives, LifP l) ∧ isName a_name = true ∧ a_lives.length ≤ 64 ∧ FldsP a_params true ∧ ResP a_result ∧ BlP a_body 1 ∧ IntKind.i64.wrap (cntL a_body : Int) ≤ 2000) := shut Iff.rfl
  obtain ⟨X, hX⟩ : ∃ X, X = FunP ⟨a_pub, a_name, a_lives, a_params, a_result, a_body, a_pos⟩ := ⟨_, rfl⟩
  rw [← hX] at HP ⊢
  clear hX
  have HM := shut hM
  clear hM
  have ag1 := agg_ok ha.len ha.one
  obtain ⟨p2, q2, p3, q3, s4, p8, q8, hcs, ah_name, ah_lives, ah_params, ah_result, ah_body⟩ := ha
  have HCA := shut hcs
  clear hcs
  simp only at ah_name ah_lives ah_params ah_result ah_body HCA
  obtain ⟨CA, hCA⟩ : ∃ C, C = cs.toArray := ⟨_, rfl⟩
  rw [← hCA] at ag1 ⊢
  rw [HCA.out] at hCA
  have GCA := shut hCA
  clear hCA HCA
  have al_result := ah_result.len
  have KW : Keeps Nothing w (w.alloc (.cells CA 36)) := (Keeps.refl Nothing w).alloc _
  have BA := blk_new w CA 36
  go_enter Try.func26, Try.ntmps26
  go_upto_region 1 with fail
  clear ag1
  generalize w.heap.size = ga at *
  generalize w.alloc (.cells CA 36) = wb at *
  obtain ⟨n, hn⟩ : ∃ n, a_lives.length = n := ⟨_, rfl⟩
  have hnb : n ≤ bigN := by rw [← hn]; exact ah_lives.1
  unfold bigN at hnb
  rw [hn] at GCA HP
  have HN := shut hn
  clear hn
  obtain ⟨-, -, ae2, -, -, -, -⟩ := FunB al_result GCA.out BA
  go_wp2_with fail
  clear ae2
  go_loopw [4, 9] (fun s4 s9 wx => ∃ t : Nat, s9 = .int .i64 t ∧ t ≤ n ∧ Keeps Nothing wb wx ∧ Shut (∀ l ∈ a_lives.take t, LifP l)) (fun _ s9 _ => n - (intOf s9).toNat)
  case atStart => exact ⟨0, rfl, Nat.zero_le _, Keeps.refl _ _, shut (by simp)⟩
  case round =>
    obtain ⟨t, rfl, ht, KL, HT⟩ := hrel
    have BF := KL.blk BA (fun h => h)
    by_cases hlt : t < n
    · obtain ⟨a, ha⟩ : ∃ a, a_lives[t]? = some a := ⟨_, List.getElem?_eq_getElem (by rw [HN.out]; exact hlt)⟩
      have KW0 := KW.trans KL (fun _ h _ => h)
      obtain ⟨g1, o1, rfl, -, cs2, l1, r1, hi⟩ := (ah_lives.keeps KW0 (fun _ _ h => h) (fun _ h => h) (fun _ _ _ h => h.keeps KW0 (fun _ _ h => h) (fun _ h => h))).get ha
      have HA := shut ha
      clear ha BA
      have m0 : (0 : Int) ≤ t := by omega
      have m1 : (t : Int) < n := by omega
      have ag1 := agg_ok l1 hi.one
      obtain ⟨CB, hC2⟩ : ∃ C, C = cs2.toArray := ⟨_, rfl⟩
      obtain ⟨hk, ho⟩ := sub_of r1 l1
      have hsz : CB.size = 2 := by rw [hC2]; simpa using l1
      rw [← hC2] at ag1 ho
      have HC2 := shut hC2
      clear hC2 r1 l1
      go_upto_region 4 with fail
      have ka : Keeps Nothing wr (wr.alloc (.cells CB 75)) := (Keeps.refl Nothing wr).alloc _
      have BL := blk_new wr CB 75
      have KX := KL.trans ka (fun _ h _ => h)
      have hi := hi.keeps ka (fun _ _ h => h) (fun _ h => h)
      clear hk ho ag1 ka
      generalize wr.heap.size = gl at *
      generalize wr.alloc (.cells CB 75) = wl at *
      obtain ⟨l_name, l_over⟩ := a
      obtain ⟨p1, q1, hcs, lh_name, lh_over⟩ := hi
      rw [hcs] at HC2
      simp only at lh_name lh_over HC2
      have HP2 : Shut (LifP ⟨l_name, l_over⟩ ↔ isLife l_name = true ∧ LivesP l_over) := shut Iff.rfl
      obtain ⟨Y, hY⟩ : ∃ Y, Y = (⟨l_name, l_over⟩ : LifD) := ⟨_, rfl⟩
      rw [← hY] at HP2 HA
      clear hY
      have hout : Shut (¬ LifP Y → ¬ X) := shut (fun h h2 => h ((HP.out.1 h2).1 Y (List.mem_of_getElem? HA.out)))
      have KW := KW.trans KX (fun _ h _ => h)
      obtain ⟨le0, le1⟩ := LifB HC2.out BL
      unfold txV at *
      have h1 := tlife_any wl l_name lh_name
      obtain ⟨z1, hz1⟩ : ∃ z, isLife l_name = z := ⟨_, rfl⟩
      rw [hz1] at h1
      repeat (first | go_values | go_skip | go_guarded | go_step | go_upon | go_back)
      refine h1.mono ?_
      rintro e w1 ⟨rfl, rfl⟩
      clear h1
      try dsimp only
      cases z1 with
      | false =>
        have hno := shut (hout.out (fun h => by have h2 := (HP2.out.1 h).1; rw [hz1] at h2; cases h2))
        clear HP HP2 hout
        repeat (first | go_values | go_skip | go_guarded | go_step | go_upon | go_back)
        go_ret
        exact tells_f hno.out KW
      | true =>
        have hc := lives_any w1 q1 lh_over
        repeat (first | go_values | go_skip | go_guarded | go_step | go_upon | go_back)
        refine hc.mono ?_
        rintro e w2 ⟨⟨z, rfl, hz⟩, k2⟩
        have KW := KW.trans k2 (fun _ h _ => h)
        have KX := KX.trans k2 (fun _ h _ => h)
        clear hc le0 le1 BL k2
        try dsimp only
        cases z with
        | false =>
          have hno := shut (hout.out (fun h => by have h2 := hz.2 (HP2.out.1 h).2; cases h2))
          clear HP HP2 hout hz
          repeat (first | go_values | go_skip | go_guarded | go_step | go_upon | go_back)
          go_ret
          exact tells_f hno.out KW
        | true =>
          have HT2 := shut (all_take HA.out HT.out (HP2.out.2 ⟨hz1, hz.1 rfl⟩))
          clear HP2 hout hz
          go_wp2_with fail
          go_roundw
          case rel => exact ⟨t + 1, by go_num, by omega, KX, HT2⟩
          case measure => simp [intOf]; omega
    · obtain rfl : t = n := by omega
      have m1 : ¬ (t : Int) < t := by omega
      have HALL := shut (all_of_take HN.out HT.out)
      have HP : Shut (X ↔ isName a_name = true ∧ t ≤ 64 ∧ FldsP a_params true ∧ ResP a_result ∧ BlP a_body 1 ∧ IntKind.i64.wrap (cntL a_body : Int) ≤ 2000) := shut (HP.out.trans ⟨fun h => h.2, fun h => ⟨HALL.out, h⟩⟩)
      clear HALL HT
      have BA := BF
      have KW := KW.trans KL (fun _ h _ => h)
      clear BF KL
      have HR0 : Shut (ResP a_result ↔ (a_result.kind = 0 ∧ a_result.name = [] ∧ a_result.lives = [] ∧ a_result.elem = []) ∨ TyP a_result 1) := shut Iff.rfl
      obtain ⟨-, -, -, -, ⟨ae4, af4⟩, -, -⟩ := FunB al_result GCA.out BA
      have hk := ty_kind_cell ae4 af4 ah_result
      have hcn := nothing_any a_result wr s4 (ah_result.keeps KW (fun _ _ h => h) (fun _ h => h))
      by_cases k0 : a_result.kind = 0
      · rw [k0] at hk
        go_wp2_with (fail)
        refine hcn.mono ?_
        rintro e w1 ⟨⟨z, rfl, hz⟩, k1⟩
        have KW := KW.trans k1 (fun _ h _ => h)
        have BA := k1.blk BA (fun h => h)
        clear hcn k1 hk ae4 af4
        cases z with
        | true =>
          have HR : Shut (ResP a_result ↔ true = true) := shut (by rw [HR0.out]; exact ⟨fun _ => rfl, fun _ => .inl ⟨k0, hz.1 rfl⟩⟩)
          clear HR0 hz
          go_upto_region 8 with fail
          try simp only [Bool.false_eq_true, ↓reduceIte]
          have hcn := lname_any w1 a_name (by unfold bigN at ah_name; omega)
          obtain ⟨zn, hzn⟩ : ∃ z, isName a_name = z := ⟨_, rfl⟩
          rw [hzn] at hcn
          obtain ⟨-, ae1, -, -, -, -, -⟩ := FunB al_result GCA.out BA
          unfold txV at *
          try dsimp only
          repeat (first | go_values | go_skip | go_guarded | go_step | go_upon | go_back)
          refine hcn.mono ?_
          rintro e wn ⟨rfl, rfl⟩
          clear hcn ae1
          try dsimp only
          cases zn with
          | false =>
            have hno : Shut (¬ X) := shut (fun h => by have h2 := (HP.out.1 h).1; rw [hzn] at h2; cases h2)
            clear HP
            repeat (first | simp only [Bool.false_eq_true, ↓reduceIte] | go_values | go_skip | go_guarded | go_step | go_upon | go_back)
            go_ret
            exact tells_f hno.out KW
          | true =>
            by_cases h64 : t ≤ 64
            rotate_left
            · have m2 : ¬ (t : Int) ≤ 64 := by omega
              obtain ⟨-, -, ae2, -, -, -, -⟩ := FunB al_result GCA.out BA
              have hno : Shut (¬ X) := shut (fun h => by exact h64 (HP.out.1 h).2.1)
              clear HP
              repeat (first | simp only [Bool.false_eq_true, ↓reduceIte] | go_values | go_skip | go_guarded | go_step | go_upon | go_back)
              go_ret
              exact tells_f hno.out KW
            have m2 : (t : Int) ≤ 64 := by omega
            obtain ⟨-, -, ae2, ae3, -, -, -⟩ := FunB al_result GCA.out BA
            have hc := fields_any wn (HM.out.keeps KW) q3 true (ah_params.keeps KW (fun _ _ h => h) (fun _ h => h) (fun _ _ _ h => h.keeps KW (fun _ _ h => h) (fun _ h => h)))
            try dsimp only
            repeat (first | go_values | go_skip | go_guarded | go_step | go_upon | go_back)
            refine hc.mono ?_
            rintro e w5 ⟨⟨z5, rfl, hz5⟩, k5⟩
            have KW := KW.trans k5 (fun _ h _ => h)
            have BA := k5.blk BA (fun h => h)
            clear hc k5 ae2 ae3 m2
            try dsimp only
            cases z5 with
            | false =>
              have hno : Shut (¬ X) := shut (fun h => by have h2 := hz5.2 (HP.out.1 h).2.2.1; cases h2)
              clear HP
              repeat (first | simp only [Bool.false_eq_true, ↓reduceIte] | go_values | go_skip | go_guarded | go_step | go_upon | go_back)
              go_ret
              exact tells_f hno.out KW
            | true =>
              obtain ⟨-, -, -, -, -, ae8, -⟩ := FunB al_result GCA.out BA
              have hc := block_any a_body w5 (HM.out.keeps KW) 1 (by omega) (by omega) q8 (ah_body.keeps KW (fun _ _ h => h) (fun _ h => h) (fun _ _ _ h => h.keeps KW (fun _ _ h => h) (fun _ h => h)))
              try dsimp only
              repeat (first | go_values | go_skip | go_guarded | go_step | go_upon | go_back)
              refine hc.mono ?_
              rintro e w6 ⟨⟨z6, rfl, hz6⟩, k6⟩
              have KW := KW.trans k6 (fun _ h _ => h)
              have BA := k6.blk BA (fun h => h)
              clear hc k6 ae8
              try dsimp only
              cases z6 with
              | false =>
                have hno : Shut (¬ X) := shut (fun h => by have h2 := hz6.2 (HP.out.1 h).2.2.2.2.1; cases h2)
                clear HP
                repeat (first | simp only [Bool.false_eq_true, ↓reduceIte] | go_values | go_skip | go_guarded | go_step | go_upon | go_back)
                go_ret
                exact tells_f hno.out KW
              | true =>
                obtain ⟨-, -, -, -, -, ae8, -⟩ := FunB al_result GCA.out BA
                have hc := count_any (S := S) a_body w6 p8 q8 (ah_body.keeps KW (fun _ _ h => h) (fun _ h => h) (fun _ _ _ h => h.keeps KW (fun _ _ h => h) (fun _ h => h)))
                try dsimp only
                repeat (first | go_values | go_skip | go_guarded | go_step | go_upon | go_back)
                refine hc.mono ?_
                rintro e w7 ⟨⟨z7, rfl, hz7⟩, k7⟩
                have KW := KW.trans k7 (fun _ h _ => h)
                clear hc k7 ae8
                try dsimp only
                have hz : Shut (decide (z7 ≤ 2000) = true ↔ X) := shut (by
                  rw [HP.out, decide_eq_true_iff, ← hz7.out]
                  exact ⟨fun h => ⟨hzn, h64, hz5.1 rfl, HR.out.2 (by first | rfl | trivial), hz6.1 rfl, h⟩, fun h => h.2.2.2.2.2⟩)
                clear HP hz7 hz6 hz5
                repeat (first | go_values | go_skip | go_guarded | go_step | go_upon | go_back)
                go_ret
                exact tells_z hz.out KW
        | false =>
          obtain ⟨-, -, -, -, ⟨ae4, af4⟩, -, -⟩ := FunB al_result GCA.out BA
          have hc := kind_any a_result w1 s4 1 (HM.out.keeps KW) (by omega) (by omega) (ah_result.keeps KW (fun _ _ h => h) (fun _ h => h))
          try dsimp only
          repeat (first | go_values | go_skip | go_guarded | go_step | go_upon | go_back)
          refine hc.mono ?_
          rintro e w2 ⟨⟨z2, rfl, hz2⟩, k2⟩
          have KW := KW.trans k2 (fun _ h _ => h)
          have BA := k2.blk BA (fun h => h)
          clear hc k2 ae4 af4
          try dsimp only
          have HR : Shut (ResP a_result ↔ z2 = true) := shut (by rw [HR0.out, hz2]; exact ⟨fun h => h.elim (fun h => absurd (hz.2 h.2) (by decide)) id, fun h => .inr h⟩)
          clear HR0 hz hz2
          go_upto_region 8 with fail
          try simp only [Bool.false_eq_true, ↓reduceIte]
          cases z2 with
          | true =>
            have hcn := lname_any w2 a_name (by unfold bigN at ah_name; omega)
            obtain ⟨zn, hzn⟩ : ∃ z, isName a_name = z := ⟨_, rfl⟩
            rw [hzn] at hcn
            obtain ⟨-, ae1, -, -, -, -, -⟩ := FunB al_result GCA.out BA
            unfold txV at *
            try dsimp only
            repeat (first | go_values | go_skip | go_guarded | go_step | go_upon | go_back)
            refine hcn.mono ?_
            rintro e wn ⟨rfl, rfl⟩
            clear hcn ae1
            try dsimp only
            cases zn with
            | false =>
              have hno : Shut (¬ X) := shut (fun h => by have h2 := (HP.out.1 h).1; rw [hzn] at h2; cases h2)
              clear HP
              repeat (first | simp only [Bool.false_eq_true, ↓reduceIte] | go_values | go_skip | go_guarded | go_step | go_upon | go_back)
              go_ret
              exact tells_f hno.out KW
            | true =>
              by_cases h64 : t ≤ 64
              rotate_left
              · have m2 : ¬ (t : Int) ≤ 64 := by omega
                obtain ⟨-, -, ae2, -, -, -, -⟩ := FunB al_result GCA.out BA
                have hno : Shut (¬ X) := shut (fun h => by exact h64 (HP.out.1 h).2.1)
                clear HP
                repeat (first | simp only [Bool.false_eq_true, ↓reduceIte] | go_values | go_skip | go_guarded | go_step | go_upon | go_back)
                go_ret
                exact tells_f hno.out KW
              have m2 : (t : Int) ≤ 64 := by omega
              obtain ⟨-, -, ae2, ae3, -, -, -⟩ := FunB al_result GCA.out BA
              have hc := fields_any wn (HM.out.keeps KW) q3 true (ah_params.keeps KW (fun _ _ h => h) (fun _ h => h) (fun _ _ _ h => h.keeps KW (fun _ _ h => h) (fun _ h => h)))
              try dsimp only
              repeat (first | go_values | go_skip | go_guarded | go_step | go_upon | go_back)
              refine hc.mono ?_
              rintro e w5 ⟨⟨z5, rfl, hz5⟩, k5⟩
              have KW := KW.trans k5 (fun _ h _ => h)
              have BA := k5.blk BA (fun h => h)
              clear hc k5 ae2 ae3 m2
              try dsimp only
              cases z5 with
              | false =>
                have hno : Shut (¬ X) := shut (fun h => by have h2 := hz5.2 (HP.out.1 h).2.2.1; cases h2)
                clear HP
                repeat (first | simp only [Bool.false_eq_true, ↓reduceIte] | go_values | go_skip | go_guarded | go_step | go_upon | go_back)
                go_ret
                exact tells_f hno.out KW
              | true =>
                obtain ⟨-, -, -, -, -, ae8, -⟩ := FunB al_result GCA.out BA
                have hc := block_any a_body w5 (HM.out.keeps KW) 1 (by omega) (by omega) q8 (ah_body.keeps KW (fun _ _ h => h) (fun _ h => h) (fun _ _ _ h => h.keeps KW (fun _ _ h => h) (fun _ h => h)))
                try dsimp only
                repeat (first | go_values | go_skip | go_guarded | go_step | go_upon | go_back)
                refine hc.mono ?_
                rintro e w6 ⟨⟨z6, rfl, hz6⟩, k6⟩
                have KW := KW.trans k6 (fun _ h _ => h)
                have BA := k6.blk BA (fun h => h)
                clear hc k6 ae8
                try dsimp only
                cases z6 with
                | false =>
                  have hno : Shut (¬ X) := shut (fun h => by have h2 := hz6.2 (HP.out.1 h).2.2.2.2.1; cases h2)
                  clear HP
                  repeat (first | simp only [Bool.false_eq_true, ↓reduceIte] | go_values | go_skip | go_guarded | go_step | go_upon | go_back)
                  go_ret
                  exact tells_f hno.out KW
                | true =>
                  obtain ⟨-, -, -, -, -, ae8, -⟩ := FunB al_result GCA.out BA
                  have hc := count_any (S := S) a_body w6 p8 q8 (ah_body.keeps KW (fun _ _ h => h) (fun _ h => h) (fun _ _ _ h => h.keeps KW (fun _ _ h => h) (fun _ h => h)))
                  try dsimp only
                  repeat (first | go_values | go_skip | go_guarded | go_step | go_upon | go_back)
                  refine hc.mono ?_
                  rintro e w7 ⟨⟨z7, rfl, hz7⟩, k7⟩
                  have KW := KW.trans k7 (fun _ h _ => h)
                  clear hc k7 ae8
                  try dsimp only
                  have hz : Shut (decide (z7 ≤ 2000) = true ↔ X) := shut (by
                    rw [HP.out, decide_eq_true_iff, ← hz7.out]
                    exact ⟨fun h => ⟨hzn, h64, hz5.1 rfl, HR.out.2 (by first | rfl | trivial), hz6.1 rfl, h⟩, fun h => h.2.2.2.2.2⟩)
                  clear HP hz7 hz6 hz5
                  repeat (first | go_values | go_skip | go_guarded | go_step | go_upon | go_back)
                  go_ret
                  exact tells_z hz.out KW
          | false =>
            have hcn := lname_any w2 a_name (by unfold bigN at ah_name; omega)
            obtain ⟨zn, hzn⟩ : ∃ z, isName a_name = z := ⟨_, rfl⟩
            rw [hzn] at hcn
            obtain ⟨-, ae1, -, -, -, -, -⟩ := FunB al_result GCA.out BA
            unfold txV at *
            try dsimp only
            repeat (first | go_values | go_skip | go_guarded | go_step | go_upon | go_back)
            refine hcn.mono ?_
            rintro e wn ⟨rfl, rfl⟩
            clear hcn ae1
            try dsimp only
            cases zn with
            | false =>
              have hno : Shut (¬ X) := shut (fun h => by have h2 := (HP.out.1 h).1; rw [hzn] at h2; cases h2)
              clear HP
              repeat (first | simp only [Bool.false_eq_true, ↓reduceIte] | go_values | go_skip | go_guarded | go_step | go_upon | go_back)
              go_ret
              exact tells_f hno.out KW
            | true =>
              by_cases h64 : t ≤ 64
              rotate_left
              · have m2 : ¬ (t : Int) ≤ 64 := by omega
                obtain ⟨-, -, ae2, -, -, -, -⟩ := FunB al_result GCA.out BA
                have hno : Shut (¬ X) := shut (fun h => by exact h64 (HP.out.1 h).2.1)
                clear HP
                repeat (first | simp only [Bool.false_eq_true, ↓reduceIte] | go_values | go_skip | go_guarded | go_step | go_upon | go_back)
                go_ret
                exact tells_f hno.out KW
              have m2 : (t : Int) ≤ 64 := by omega
              obtain ⟨-, -, ae2, ae3, -, -, -⟩ := FunB al_result GCA.out BA
              have hc := fields_any wn (HM.out.keeps KW) q3 true (ah_params.keeps KW (fun _ _ h => h) (fun _ h => h) (fun _ _ _ h => h.keeps KW (fun _ _ h => h) (fun _ h => h)))
              try dsimp only
              repeat (first | go_values | go_skip | go_guarded | go_step | go_upon | go_back)
              refine hc.mono ?_
              rintro e w5 ⟨⟨z5, rfl, hz5⟩, k5⟩
              have KW := KW.trans k5 (fun _ h _ => h)
              have BA := k5.blk BA (fun h => h)
              clear hc k5 ae2 ae3 m2
              try dsimp only
              cases z5 with
              | false =>
                have hno : Shut (¬ X) := shut (fun h => by have h2 := hz5.2 (HP.out.1 h).2.2.1; cases h2)
                clear HP
                repeat (first | simp only [Bool.false_eq_true, ↓reduceIte] | go_values | go_skip | go_guarded | go_step | go_upon | go_back)
                go_ret
                exact tells_f hno.out KW
              | true =>
                have hno : Shut (¬ X) := shut (fun h => by have h2 := HR.out.1 (HP.out.1 h).2.2.2.1; cases h2)
                clear HP
                repeat (first | simp only [Bool.false_eq_true, ↓reduceIte] | go_values | go_skip | go_guarded | go_step | go_upon | go_back)
                go_ret
                exact tells_f hno.out KW
      · have hkb : (a_result.kind == 0) = false := by rw [beq_eq_false_iff_ne]; exact k0
        clear hcn
        have hc := kind_any a_result wr s4 1 (HM.out.keeps KW) (by omega) (by omega) (ah_result.keeps KW (fun _ _ h => h) (fun _ h => h))
        try dsimp only
        repeat (first | go_values | go_skip | go_guarded | go_step | go_upon | go_back)
        refine hc.mono ?_
        rintro e w2 ⟨⟨z2, rfl, hz2⟩, k2⟩
        have KW := KW.trans k2 (fun _ h _ => h)
        have BA := k2.blk BA (fun h => h)
        clear hc k2 ae4 af4 hk hkb
        try dsimp only
        have HR : Shut (ResP a_result ↔ z2 = true) := shut (by rw [HR0.out, hz2]; exact ⟨fun h => h.elim (fun h => absurd h.1 k0) id, fun h => .inr h⟩)
        clear HR0 hz2
        go_upto_region 8 with fail
        try simp only [Bool.false_eq_true, ↓reduceIte]
        cases z2 with
        | true =>
          have hcn := lname_any w2 a_name (by unfold bigN at ah_name; omega)
          obtain ⟨zn, hzn⟩ : ∃ z, isName a_name = z := ⟨_, rfl⟩
          rw [hzn] at hcn
          obtain ⟨-, ae1, -, -, -, -, -⟩ := FunB al_result GCA.out BA
          unfold txV at *
          try dsimp only
          repeat (first | go_values | go_skip | go_guarded | go_step | go_upon | go_back)
          refine hcn.mono ?_
          rintro e wn ⟨rfl, rfl⟩
          clear hcn ae1
          try dsimp only
          cases zn with
          | false =>
            have hno : Shut (¬ X) := shut (fun h => by have h2 := (HP.out.1 h).1; rw [hzn] at h2; cases h2)
            clear HP
            repeat (first | simp only [Bool.false_eq_true, ↓reduceIte] | go_values | go_skip | go_guarded | go_step | go_upon | go_back)
            go_ret
            exact tells_f hno.out KW
          | true =>
            by_cases h64 : t ≤ 64
            rotate_left
            · have m2 : ¬ (t : Int) ≤ 64 := by omega
              obtain ⟨-, -, ae2, -, -, -, -⟩ := FunB al_result GCA.out BA
              have hno : Shut (¬ X) := shut (fun h => by exact h64 (HP.out.1 h).2.1)
              clear HP
              repeat (first | simp only [Bool.false_eq_true, ↓reduceIte] | go_values | go_skip | go_guarded | go_step | go_upon | go_back)
              go_ret
              exact tells_f hno.out KW
            have m2 : (t : Int) ≤ 64 := by omega
            obtain ⟨-, -, ae2, ae3, -, -, -⟩ := FunB al_result GCA.out BA
            have hc := fields_any wn (HM.out.keeps KW) q3 true (ah_params.keeps KW (fun _ _ h => h) (fun _ h => h) (fun _ _ _ h => h.keeps KW (fun _ _ h => h) (fun _ h => h)))
            try dsimp only
            repeat (first | go_values | go_skip | go_guarded | go_step | go_upon | go_back)
            refine hc.mono ?_
            rintro e w5 ⟨⟨z5, rfl, hz5⟩, k5⟩
            have KW := KW.trans k5 (fun _ h _ => h)
            have BA := k5.blk BA (fun h => h)
            clear hc k5 ae2 ae3 m2
            try dsimp only
            cases z5 with
            | false =>
              have hno : Shut (¬ X) := shut (fun h => by have h2 := hz5.2 (HP.out.1 h).2.2.1; cases h2)
              clear HP
              repeat (first | simp only [Bool.false_eq_true, ↓reduceIte] | go_values | go_skip | go_guarded | go_step | go_upon | go_back)
              go_ret
              exact tells_f hno.out KW
            | true =>
              obtain ⟨-, -, -, -, -, ae8, -⟩ := FunB al_result GCA.out BA
              have hc := block_any a_body w5 (HM.out.keeps KW) 1 (by omega) (by omega) q8 (ah_body.keeps KW (fun _ _ h => h) (fun _ h => h) (fun _ _ _ h => h.keeps KW (fun _ _ h => h) (fun _ h => h)))
              try dsimp only
              repeat (first | go_values | go_skip | go_guarded | go_step | go_upon | go_back)
              refine hc.mono ?_
              rintro e w6 ⟨⟨z6, rfl, hz6⟩, k6⟩
              have KW := KW.trans k6 (fun _ h _ => h)
              have BA := k6.blk BA (fun h => h)
              clear hc k6 ae8
              try dsimp only
              cases z6 with
              | false =>
                have hno : Shut (¬ X) := shut (fun h => by have h2 := hz6.2 (HP.out.1 h).2.2.2.2.1; cases h2)
                clear HP
                repeat (first | simp only [Bool.false_eq_true, ↓reduceIte] | go_values | go_skip | go_guarded | go_step | go_upon | go_back)
                go_ret
                exact tells_f hno.out KW
              | true =>
                obtain ⟨-, -, -, -, -, ae8, -⟩ := FunB al_result GCA.out BA
                have hc := count_any (S := S) a_body w6 p8 q8 (ah_body.keeps KW (fun _ _ h => h) (fun _ h => h) (fun _ _ _ h => h.keeps KW (fun _ _ h => h) (fun _ h => h)))
                try dsimp only
                repeat (first | go_values | go_skip | go_guarded | go_step | go_upon | go_back)
                refine hc.mono ?_
                rintro e w7 ⟨⟨z7, rfl, hz7⟩, k7⟩
                have KW := KW.trans k7 (fun _ h _ => h)
                clear hc k7 ae8
                try dsimp only
                have hz : Shut (decide (z7 ≤ 2000) = true ↔ X) := shut (by
                  rw [HP.out, decide_eq_true_iff, ← hz7.out]
                  exact ⟨fun h => ⟨hzn, h64, hz5.1 rfl, HR.out.2 (by first | rfl | trivial), hz6.1 rfl, h⟩, fun h => h.2.2.2.2.2⟩)
                clear HP hz7 hz6 hz5
                repeat (first | go_values | go_skip | go_guarded | go_step | go_upon | go_back)
                go_ret
                exact tells_z hz.out KW
        | false =>
          have hcn := lname_any w2 a_name (by unfold bigN at ah_name; omega)
          obtain ⟨zn, hzn⟩ : ∃ z, isName a_name = z := ⟨_, rfl⟩
          rw [hzn] at hcn
          obtain ⟨-, ae1, -, -, -, -, -⟩ := FunB al_result GCA.out BA
          unfold txV at *
          try dsimp only
          repeat (first | go_values | go_skip | go_guarded | go_step | go_upon | go_back)
          refine hcn.mono ?_
          rintro e wn ⟨rfl, rfl⟩
          clear hcn ae1
          try dsimp only
          cases zn with
          | false =>
            have hno : Shut (¬ X) := shut (fun h => by have h2 := (HP.out.1 h).1; rw [hzn] at h2; cases h2)
            clear HP
            repeat (first | simp only [Bool.false_eq_true, ↓reduceIte] | go_values | go_skip | go_guarded | go_step | go_upon | go_back)
            go_ret
            exact tells_f hno.out KW
          | true =>
            by_cases h64 : t ≤ 64
            rotate_left
            · have m2 : ¬ (t : Int) ≤ 64 := by omega
              obtain ⟨-, -, ae2, -, -, -, -⟩ := FunB al_result GCA.out BA
              have hno : Shut (¬ X) := shut (fun h => by exact h64 (HP.out.1 h).2.1)
              clear HP
              repeat (first | simp only [Bool.false_eq_true, ↓reduceIte] | go_values | go_skip | go_guarded | go_step | go_upon | go_back)
              go_ret
              exact tells_f hno.out KW
            have m2 : (t : Int) ≤ 64 := by omega
            obtain ⟨-, -, ae2, ae3, -, -, -⟩ := FunB al_result GCA.out BA
            have hc := fields_any wn (HM.out.keeps KW) q3 true (ah_params.keeps KW (fun _ _ h => h) (fun _ h => h) (fun _ _ _ h => h.keeps KW (fun _ _ h => h) (fun _ h => h)))
            try dsimp only
            repeat (first | go_values | go_skip | go_guarded | go_step | go_upon | go_back)
            refine hc.mono ?_
            rintro e w5 ⟨⟨z5, rfl, hz5⟩, k5⟩
            have KW := KW.trans k5 (fun _ h _ => h)
            have BA := k5.blk BA (fun h => h)
            clear hc k5 ae2 ae3 m2
            try dsimp only
            cases z5 with
            | false =>
              have hno : Shut (¬ X) := shut (fun h => by have h2 := hz5.2 (HP.out.1 h).2.2.1; cases h2)
              clear HP
              repeat (first | simp only [Bool.false_eq_true, ↓reduceIte] | go_values | go_skip | go_guarded | go_step | go_upon | go_back)
              go_ret
              exact tells_f hno.out KW
            | true =>
              have hno : Shut (¬ X) := shut (fun h => by have h2 := HR.out.1 (HP.out.1 h).2.2.2.1; cases h2)
              clear HP
              repeat (first | simp only [Bool.false_eq_true, ↓reduceIte] | go_values | go_skip | go_guarded | go_step | go_upon | go_back)
              go_ret
              exact tells_f hno.out KW

end Go.Proofs.Ytjbcagbnagefcaa

namespace Go.Proofs.Ytjbcagbnagefcaa
open Go.RowKit

attribute [local go_sem ↓] exec_mid_ty exec_store_ty exec_mid_pl exec_store_pl exec_mid_opr exec_store_opr exec_mid_val exec_store_val exec_mid_st exec_store_st exec_mid_fld exec_store_fld exec_mid_str exec_store_str exec_mid_lif exec_store_lif exec_mid_fun exec_store_fun exec_mid_cr exec_store_cr
attribute [local go_sem] rowOk_new World.setRow_alloc_new

/-- A crate that may be. -/
def CrP (c : CrD) : Prop := c.structs.length + c.funcs.length ≤ 256 ∧ (∀ s ∈ c.structs, StrP s) ∧ (∀ f ∈ c.funcs, FunP f)

set_option maxRecDepth 100000 in
set_option maxHeartbeats 8000000 in
theorem may_any {S : Nat → Prop} (a : CrD) (w : World) (hM : MaxV w) (cs : List Value) (ha : CrIs S w a cs) : Calls Try.prog 10 #[.agg cs.toArray] w (Tells w (CrP a)) := by
  obtain ⟨a_structs, a_funcs⟩ := a
  have HP : Shut (CrP ⟨a_structs, a_funcs⟩ ↔ a_structs.length + a_funcs.length ≤ 256 ∧ (∀ s ∈ a_structs, StrP s) ∧ (∀ f ∈ a_funcs, FunP f)) := shut Iff.rfl
  obtain ⟨X, hX⟩ : ∃ X, X = CrP ⟨a_structs, a_funcs⟩ := ⟨_, rfl⟩
  rw [← hX] at HP ⊢
  clear hX
  have HM := shut hM
  clear hM
  have ag1 := agg_ok ha.len ha.one
  obtain ⟨p0, q0, p1, q1, hcs, ah_structs, ah_funcs⟩ := ha
  have HCA := shut hcs
  clear hcs
  simp only at ah_structs ah_funcs HCA
  obtain ⟨CA, hCA⟩ : ∃ C, C = cs.toArray := ⟨_, rfl⟩
  rw [← hCA] at ag1 ⊢
  rw [HCA.out] at hCA
  have GCA := shut hCA
  clear hCA HCA
  have KW : Keeps Nothing w (w.alloc (.cells CA 25)) := (Keeps.refl Nothing w).alloc _
  have BA := blk_new w CA 25
  go_enter Try.func10, Try.ntmps10
  go_upto_region 1 with fail
  clear ag1
  generalize w.heap.size = ga at *
  generalize w.alloc (.cells CA 25) = wb at *
  obtain ⟨n, hn⟩ : ∃ n, a_structs.length = n := ⟨_, rfl⟩
  have hnb : n ≤ bigN := by rw [← hn]; exact ah_structs.1
  obtain ⟨m, hm⟩ : ∃ m, a_funcs.length = m := ⟨_, rfl⟩
  have hmb : m ≤ bigN := by rw [← hm]; exact ah_funcs.1
  unfold bigN at hnb hmb
  rw [hn, hm] at GCA HP
  have Hn := shut hn
  have Hm := shut hm
  clear hn hm
  obtain ⟨ae0, ae1⟩ := CrB  GCA.out BA
  by_cases h256 : n + m ≤ 256
  rotate_left
  · have m2 : 256 < (n : Int) + m := by omega
    have hno : Shut (¬ X) := shut (fun h => h256 (HP.out.1 h).1)
    clear HP
    go_wp2_with fail
    go_ret
    exact tells_f hno.out KW
  have m2 : ¬ 256 < (n : Int) + m := by omega
  have HP1 : Shut (X ↔ (∀ s ∈ a_structs, StrP s) ∧ (∀ f ∈ a_funcs, FunP f)) := shut (HP.out.trans ⟨fun h => h.2, fun h => ⟨h256, h⟩⟩)
  clear HP
  go_wp2_with fail
  clear m2 h256
  clear ae0 ae1
  go_loopw [4, 18] (fun sb si wx => ∃ t : Nat, si = .int .i64 t ∧ t ≤ n ∧ Keeps Nothing wb wx ∧ Shut (∀ l ∈ a_structs.take t, StrP l)) (fun _ si _ => n - (intOf si).toNat)
  case atStart => exact ⟨0, rfl, Nat.zero_le _, Keeps.refl _ _, shut (by simp)⟩
  case round =>
    obtain ⟨t, rfl, ht, KL, HT⟩ := hrel
    by_cases hlt : t < n
    · obtain ⟨a, ha⟩ : ∃ a, a_structs[t]? = some a := ⟨_, List.getElem?_eq_getElem (by rw [Hn.out]; exact hlt)⟩
      have KW0 := KW.trans KL (fun _ h _ => h)
      obtain ⟨g1, o1, rfl, -, cs2, l1, r1, hi⟩ := (ah_structs.keeps KW0 (fun _ _ h => h) (fun _ h => h) (fun _ _ _ h => h.keeps KW0 (fun _ _ h => h) (fun _ h => h))).get ha
      have HA := shut ha
      clear ha
      have m0 : (0 : Int) ≤ t := by omega
      have m1 : (t : Int) < n := by omega
      have ag1 := agg_ok l1 hi.one
      obtain ⟨CB, hC2⟩ : ∃ C, C = cs2.toArray := ⟨_, rfl⟩
      obtain ⟨hk, ho⟩ := sub_of r1 l1
      have hsz : CB.size = 5 := by rw [hC2]; simpa using l1
      rw [← hC2] at ag1 ho
      have HC2 := shut hC2
      clear hC2 r1 l1
      go_upto_region 6 with fail
      have ka : Keeps Nothing wr (wr.alloc (.cells CB 48)) := (Keeps.refl Nothing wr).alloc _
      have BL := blk_new wr CB 48
      have KX := KL.trans ka (fun _ h _ => h)
      have hi := hi.keeps ka (fun _ _ h => h) (fun _ h => h)
      clear hk ho ag1 ka
      generalize wr.heap.size = gl at *
      generalize wr.alloc (.cells CB 48) = wl at *
      have KW := KW.trans KX (fun _ h _ => h)
      have hc := strukt_any a wl (HM.out.keeps KW)  cs2 hi
      rw [← HC2.out] at hc
      obtain ⟨y1, y2⟩ := tblk_mid BL hsz
      clear hi
      repeat (first | go_values | go_skip | go_guarded | go_step | go_upon | go_back)
      refine hc.mono ?_
      rintro e w1 ⟨⟨z, rfl, hz⟩, k1⟩
      have KW := KW.trans k1 (fun _ h _ => h)
      have KX := KX.trans k1 (fun _ h _ => h)
      clear hc y1 y2 BL k1
      try dsimp only
      cases z with
      | true =>
        have HT2 := shut (all_take HA.out HT.out (hz.1 rfl))
        clear hz
        go_wp2_with fail
        go_roundw
        case rel => exact ⟨t + 1, by go_num, by omega, KX, HT2⟩
        case measure => simp [intOf]; omega
      | false =>
        have hno : Shut (¬ X) := shut (fun h => by have h2 := hz.2 ((HP1.out.1 h).1 a (List.mem_of_getElem? HA.out)); cases h2)
        clear hz HP1
        go_wp2_with fail
        go_ret
        exact tells_f hno.out KW
    · obtain rfl : t = n := by omega
      have m1 : ¬ (t : Int) < t := by omega
      have HALL := shut (all_of_take Hn.out HT.out)
      have HP2 : Shut (X ↔ ∀ f ∈ a_funcs, FunP f) := shut (HP1.out.trans ⟨fun h => h.2, fun h => ⟨HALL.out, h⟩⟩)
      clear HP1
      have KW := KW.trans KL (fun _ h _ => h)
      have BA := KL.blk BA (fun h => h)
      clear HALL HT KL
      obtain ⟨-, ae1⟩ := CrB  GCA.out BA
      go_wp2_with fail
      clear m1 ae1
      go_loopw [6, 29] (fun sb si wy => ∃ t : Nat, si = .int .i64 t ∧ t ≤ m ∧ Keeps Nothing wr wy ∧ Shut (∀ l ∈ a_funcs.take t, FunP l)) (fun _ si _ => m - (intOf si).toNat)
      case atStart => exact ⟨0, rfl, Nat.zero_le _, Keeps.refl _ _, shut (by simp)⟩
      case round =>
        obtain ⟨t, rfl, ht, KL, HT⟩ := hrel
        by_cases hlt : t < m
        · obtain ⟨a, ha⟩ : ∃ a, a_funcs[t]? = some a := ⟨_, List.getElem?_eq_getElem (by rw [Hm.out]; exact hlt)⟩
          have KW0 := KW.trans KL (fun _ h _ => h)
          obtain ⟨g1, o1, rfl, -, cs2, l1, r1, hi⟩ := (ah_funcs.keeps KW0 (fun _ _ h => h) (fun _ h => h) (fun _ _ _ h => h.keeps KW0 (fun _ _ h => h) (fun _ h => h))).get ha
          have HA := shut ha
          clear ha
          have m0 : (0 : Int) ≤ t := by omega
          have m1 : (t : Int) < m := by omega
          have ag1 := agg_ok l1 hi.one
          obtain ⟨CB, hC2⟩ : ∃ C, C = cs2.toArray := ⟨_, rfl⟩
          obtain ⟨hk, ho⟩ := sub_of r1 l1
          have hsz : CB.size = 10 := by rw [hC2]; simpa using l1
          rw [← hC2] at ag1 ho
          have HC2 := shut hC2
          clear hC2 r1 l1
          go_upto_region 12 with fail
          have ka : Keeps Nothing wr (wr.alloc (.cells CB 36)) := (Keeps.refl Nothing wr).alloc _
          have BL := blk_new wr CB 36
          have KX := KL.trans ka (fun _ h _ => h)
          have hi := hi.keeps ka (fun _ _ h => h) (fun _ h => h)
          clear hk ho ag1 ka
          generalize wr.heap.size = gl at *
          generalize wr.alloc (.cells CB 36) = wl at *
          have KW := KW.trans KX (fun _ h _ => h)
          have hc := function_any a wl (HM.out.keeps KW)  cs2 hi
          rw [← HC2.out] at hc
          obtain ⟨y1, y2⟩ := tblk_mid BL hsz
          clear hi
          repeat (first | go_values | go_skip | go_guarded | go_step | go_upon | go_back)
          refine hc.mono ?_
          rintro e w1 ⟨⟨z, rfl, hz⟩, k1⟩
          have KW := KW.trans k1 (fun _ h _ => h)
          have KX := KX.trans k1 (fun _ h _ => h)
          clear hc y1 y2 BL k1
          try dsimp only
          cases z with
          | true =>
            have HT2 := shut (all_take HA.out HT.out (hz.1 rfl))
            clear hz
            go_wp2_with fail
            go_roundw
            case rel => exact ⟨t + 1, by go_num, by omega, KX, HT2⟩
            case measure => simp [intOf]; omega
          | false =>
            have hno : Shut (¬ X) := shut (fun h => by have h2 := hz.2 (HP2.out.1 h a (List.mem_of_getElem? HA.out)); cases h2)
            clear hz HP2
            go_wp2_with fail
            go_ret
            exact tells_f hno.out KW
        · obtain rfl : t = m := by omega
          have m1 : ¬ (t : Int) < t := by omega
          have hy := shut (HP2.out.2 (all_of_take Hm.out HT.out))
          clear HP2
          go_wp2_with fail
          go_ret
          exact tells_t hy.out (KW.trans KL (fun _ h _ => h))

end Go.Proofs.Ytjbcagbnagefcaa
