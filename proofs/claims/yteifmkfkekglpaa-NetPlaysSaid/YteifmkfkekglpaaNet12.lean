/- usufructlaw29.told. -/
import Derived.Test.YteifmkfkekglpaaNet11
import Derived.Deep.Cut
import Derived.Deep.CutBlock
namespace Go.Proofs.Yteifmkfkekglpaa
open Go.RowKit

theorem msg110_lit : msg3C 1 1 0 = #[.int .i64 1, .int .i64 1, .int .i64 0, .int .i64 0, .int .i64 0, .string ⟨#[]⟩, .int .u8 0, .int .u8 0, .int .u8 0, .int .u8 0, .int .u8 0, .int .u8 0, .int .u8 0, .int .u8 0, .int .u8 0, .int .u8 0, .int .u8 0, .int .u8 0, .int .u8 0, .int .u8 0, .int .u8 0, .int .u8 0, .int .u8 0, .int .u8 0, .int .u8 0, .int .u8 0, .int .u8 0, .int .u8 0, .int .u8 0, .int .u8 0, .int .u8 0, .int .u8 0, .int .u8 0, .int .u8 0, .int .u8 0, .int .u8 0, .int .u8 0, .int .u8 0, .slice none 0 0, .string ⟨#[]⟩, .string ⟨#[]⟩] := rfl
theorem agg110 : aggOk 41 (.agg #[.int .i64 1, .int .i64 1, .int .i64 0, .int .i64 0, .int .i64 0, .string ⟨#[]⟩, .int .u8 0, .int .u8 0, .int .u8 0, .int .u8 0, .int .u8 0, .int .u8 0, .int .u8 0, .int .u8 0, .int .u8 0, .int .u8 0, .int .u8 0, .int .u8 0, .int .u8 0, .int .u8 0, .int .u8 0, .int .u8 0, .int .u8 0, .int .u8 0, .int .u8 0, .int .u8 0, .int .u8 0, .int .u8 0, .int .u8 0, .int .u8 0, .int .u8 0, .int .u8 0, .int .u8 0, .int .u8 0, .int .u8 0, .int .u8 0, .int .u8 0, .int .u8 0, .slice none 0 0, .string ⟨#[]⟩, .string ⟨#[]⟩]) = true := by rw [← msg110_lit]; exact (msg3_is 1 1 0).row
theorem msg120_lit : msg3C 1 2 0 = #[.int .i64 1, .int .i64 2, .int .i64 0, .int .i64 0, .int .i64 0, .string ⟨#[]⟩, .int .u8 0, .int .u8 0, .int .u8 0, .int .u8 0, .int .u8 0, .int .u8 0, .int .u8 0, .int .u8 0, .int .u8 0, .int .u8 0, .int .u8 0, .int .u8 0, .int .u8 0, .int .u8 0, .int .u8 0, .int .u8 0, .int .u8 0, .int .u8 0, .int .u8 0, .int .u8 0, .int .u8 0, .int .u8 0, .int .u8 0, .int .u8 0, .int .u8 0, .int .u8 0, .int .u8 0, .int .u8 0, .int .u8 0, .int .u8 0, .int .u8 0, .int .u8 0, .slice none 0 0, .string ⟨#[]⟩, .string ⟨#[]⟩] := rfl
theorem msg112_lit : msg3C 1 1 2 = #[.int .i64 1, .int .i64 1, .int .i64 2, .int .i64 0, .int .i64 0, .string ⟨#[]⟩, .int .u8 0, .int .u8 0, .int .u8 0, .int .u8 0, .int .u8 0, .int .u8 0, .int .u8 0, .int .u8 0, .int .u8 0, .int .u8 0, .int .u8 0, .int .u8 0, .int .u8 0, .int .u8 0, .int .u8 0, .int .u8 0, .int .u8 0, .int .u8 0, .int .u8 0, .int .u8 0, .int .u8 0, .int .u8 0, .int .u8 0, .int .u8 0, .int .u8 0, .int .u8 0, .int .u8 0, .int .u8 0, .int .u8 0, .int .u8 0, .int .u8 0, .int .u8 0, .slice none 0 0, .string ⟨#[]⟩, .string ⟨#[]⟩] := rfl

attribute [local go_sem ↓] exec_mid_msg exec_store_msg
attribute [local go_sem] rowOk_new World.setRow_alloc_new

set_option maxRecDepth 100000 in
set_option maxHeartbeats 8000000 in
theorem told29 (w : World) : Calls Try.prog 8 #[] w fun e w' => e = .returned (.bool true) ∧ Keeps Nothing w w' := by
  go_enter Try.func8, Try.ntmps8
  go_wp2_with fail
  refine (nt_new (Keeps.refl Nothing w)).mono ?_
  rintro e w1 ⟨p, rfl, N1⟩
  have hag := agg110
  go_upto_region 3 with fail
  clear hag
  rw [← msg110_lit]
  have hC1 := msg3_is 1 1 0
  have hC2 := msg3_is 1 2 0
  have hC3 := msg3_is 1 1 2
  obtain ⟨Z1, hZ1⟩ : ∃ Z, Z = msg3C 1 1 0 := ⟨_, rfl⟩
  rw [← hZ1] at hC1 ⊢
  clear hZ1
  have k1 := (Keeps.refl Nothing w1).alloc (.cells Z1 26)
  have B1 := blk_new w1 Z1 26
  have N2 := N1.keepsN k1
  obtain ⟨x1, x2⟩ := blk_mid B1 hC1.size
  have hs1 := nt_send N2 (by decide) (by decide) (by decide) hC1 (msg3_at _ (by decide) (by decide) (by decide)) (msg3_small _ _ _) (by decide)
  clear N1 k1 N2
  go_wp2_with fail
  refine hs1.mono ?_
  rintro e w2 ⟨b1, c1, rfl, N3, -⟩
  clear hs1 x1 x2 B1
  have hs2 := nt_send N3 (by decide) (by decide) (by simp) hC2 (msg3_at _ (by decide) (by decide) (by decide)) (msg3_small _ _ _) (by decide)
  rw [msg120_lit] at hs2
  go_wp2_with fail
  refine hs2.mono ?_
  rintro e w3 ⟨b2, c2, rfl, N4, -⟩
  clear hs2 N3
  have hlen := encMsg_len (m := msg3 1 2 0) (by decide) rfl (fun h hh => by cases hh)
  have hgp := get_put (m := msg3 1 2 0) (by decide) rfl (fun h hh => by cases hh)
  have hne := encMsg_ne (msg3 1 2 0)
  have hlen2 : (encMsg (msg3 1 2 0)).length ≤ 132 := hlen
  clear hlen
  have HGP := shut hgp
  have HNE := shut hne
  clear hgp hne
  generalize encMsg (msg3 1 2 0) = M2 at *
  generalize encMsg (msg3 1 1 0) = M1 at *
  have hs3 := nt_double N4 (-1) (by simp) (by simp) (x := (b2, c2, M2)) rfl (by show M2.length ≤ _; omega) HNE.out
  go_wp2_with fail
  refine hs3.mono ?_
  rintro e w4 ⟨b3, c3, rfl, N5, -⟩
  clear hs3 N4
  have hu := nt_under N5
  have hst := nt_sent N5
  have ht := nt_take N5 2 (by simp) (by simp) (x := (b3, c3, M2)) rfl
  simp only [List.nil_append, List.cons_append, List.length_cons, List.length_nil] at hu
  go_wp2_with fail
  refine hu.mono ?_
  rintro e w5 ⟨rfl, rfl⟩
  go_wp2_with fail
  refine hst.mono ?_
  rintro e w6 ⟨rfl, rfl⟩
  go_wp2_with fail
  refine ht.mono ?_
  rintro e w7 ⟨rfl, N6, o6, -⟩
  clear ht hst hu N5
  have hget := get_any (c := c3) (own8_at o6) (by show M2.length ≤ _; omega)
  have hV : rowV (b3, c3, M2) = .slice (some ⟨b3, 0, none⟩) M2.length c3 := rfl
  rw [hV]
  go_wp2_with fail
  refine hget.mono ?_
  rintro e w8 hG
  obtain ⟨C, aoC, capC, rfl, hMC, hMA, k8⟩ := hG.1 _ HGP.out
  have N7 := N6.keepsN k8
  clear hG hget o6 N6 k8 hV hMA
  have hCr := hMC.row
  go_wp2_with fail
  have K8 := N7.keep.trans ((Keeps.refl Nothing w8).alloc (.cells C 26)) (fun _ h _ => h)
  have BC := blk_new w8 C 26
  clear N7
  generalize w8.alloc (.cells C 26) = wa at *
  generalize w8.heap.size = gC at *
  refine (nt_new (Keeps.refl Nothing wa)).mono ?_
  rintro e w9 ⟨q, rfl, N9⟩
  have ht0 := nt_take0 N9 0
  go_wp2_with fail
  refine ht0.mono ?_
  rintro e w10 ⟨b9, rfl, hE, N10⟩
  have KA := N10.keep
  have d1 := KA.cell (blk_cell BC 1 hMC.c1) (fun h => h)
  have hd1 : (msg3 1 2 0).frm = 2 := rfl
  rw [hd1] at d1
  have his := is_any hE 10 0
  clear ht0 N9 N10 BC hd1
  go_wp2_with fail
  refine his.mono ?_
  rintro e w11 ⟨rfl, n11, rfl⟩
  have hmay := may_any (w := w10.drewN n11) hC3
  have hno : decide (mayP (msg3 1 1 2)) = false := by decide
  rw [hno] at hmay
  rw [msg112_lit] at hmay
  clear hE his
  go_wp2_with fail
  refine hmay.mono ?_
  rintro e w12 ⟨rfl, k12⟩
  go_wp2_with fail
  go_ret
  exact ⟨rfl, (K8.trans KA (fun _ h _ => h)).trans ((Keeps.refl Nothing w10).drewN n11 |>.trans k12 (fun _ h _ => h)) (fun _ h _ => h)⟩

end Go.Proofs.Yteifmkfkekglpaa
