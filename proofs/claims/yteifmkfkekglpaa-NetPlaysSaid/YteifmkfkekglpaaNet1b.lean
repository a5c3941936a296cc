/- The document's answer on which messages may be. -/
import Derived.Test.YteifmkfkekglpaaNet3
import Derived.Test.YteifmkfkekglpaaChain
import Derived.Deep.Cut
import Derived.Deep.CutBlock
namespace Go.Proofs.Yteifmkfkekglpaa
open Go.RowKit

set_option maxRecDepth 100000 in
set_option maxHeartbeats 4000000 in
theorem rmay_0 {w : World} {C : Array Value} {k f t c ep : Int} {nm hs : List UInt8} {hh : List (List UInt8)} {bl sg : List UInt8} {ao : Option Addr} {cap : Nat} (hC : MsgC C ⟨k, f, t, c, ep, nm, hs, hh, bl, sg⟩ ao cap)
    (h0 : ¬ 1 ≤ k) : Calls Try.prog 13 #[.agg C] w fun e w' => e = .returned (.bool false) ∧ Keeps Nothing w w' := by
  have B := blk_new w C 26
  have K := (Keeps.refl Nothing w).alloc (.cells C 26)
  have c0 := blk_cell B 0 hC.c0
  have c1 := blk_cell B 1 hC.c1
  have c2 := blk_cell B 2 hC.c2
  have c3 := blk_cell B 3 hC.c3
  have c4 := blk_cell B 4 hC.c4
  have c5 := blk_cell B 5 hC.c5
  have c38 := blk_cell B 38 hC.c38
  have c39 := blk_cell B 39 hC.c39
  have c40 := blk_cell B 40 hC.c40
  simp only at c0 c1 c2 c3 c4 c5 c38 c39 c40
  clear hC B
  have _ := h0
  go_enter Try.func13, Try.ntmps13
  go_upto_region 1 with fail
  refine wp_region_list ?_
  have KW := K
  clear K
  refine wpList_hide (fun ops hO => ?_)
  have hj3 : (ops[3]?).bind (·.dst) = some 6 := by rw [hO]; rfl
  have hj8 : (ops[8]?).bind (·.dst) = some 11 := by rw [hO]; rfl
  have hj13 : (ops[13]?).bind (·.dst) = some 16 := by rw [hO]; rfl
  have hj18 : (ops[18]?).bind (·.dst) = some 21 := by rw [hO]; rfl
  have hj23 : (ops[23]?).bind (·.dst) = some 26 := by rw [hO]; rfl
  have hj28 : (ops[28]?).bind (·.dst) = some 31 := by rw [hO]; rfl
  have hj35 : (ops[35]?).bind (·.dst) = some 38 := by rw [hO]; rfl
  have hj39 : (ops[39]?).bind (·.dst) = some 42 := by rw [hO]; rfl
  have hj45 : (ops[45]?).bind (·.dst) = some 48 := by rw [hO]; rfl
  have hj50 : (ops[50]?).bind (·.dst) = some 53 := by rw [hO]; rfl
  have hj55 : (ops[55]?).bind (·.dst) = some 58 := by rw [hO]; rfl
  have hj60 : (ops[60]?).bind (·.dst) = some 63 := by rw [hO]; rfl
  have hj65 : (ops[65]?).bind (·.dst) = some 68 := by rw [hO]; rfl
  have hj71 : (ops[71]?).bind (·.dst) = some 74 := by rw [hO]; rfl
  have hj77 : (ops[77]?).bind (·.dst) = some 80 := by rw [hO]; rfl
  have hj83 : (ops[83]?).bind (·.dst) = some 86 := by rw [hO]; rfl
  clear hO
  repeat (refine wpList_val (fun K hK => ?_); have HK := shut hK; clear hK; (try simp only [Region.wanted, yielded, hj3, hj8, hj13, hj18, hj23, hj28, hj35, hj39, hj45, hj50, hj55, hj60, hj65, hj71, hj77, hj83, Option.bind_some]); go_simp; refine HK.out _ ?_; clear HK K)
  go_wp2_with fail
  all_goals go_ret
  all_goals exact ⟨rfl, KW⟩

set_option maxRecDepth 100000 in
set_option maxHeartbeats 4000000 in
theorem rmay_1 {w : World} {C : Array Value} {k f t c ep : Int} {nm hs : List UInt8} {hh : List (List UInt8)} {bl sg : List UInt8} {ao : Option Addr} {cap : Nat} (hC : MsgC C ⟨k, f, t, c, ep, nm, hs, hh, bl, sg⟩ ao cap)
    (h0 : 1 ≤ k) (h1 : ¬ k ≤ 8) : Calls Try.prog 13 #[.agg C] w fun e w' => e = .returned (.bool false) ∧ Keeps Nothing w w' := by
  have B := blk_new w C 26
  have K := (Keeps.refl Nothing w).alloc (.cells C 26)
  have c0 := blk_cell B 0 hC.c0
  have c1 := blk_cell B 1 hC.c1
  have c2 := blk_cell B 2 hC.c2
  have c3 := blk_cell B 3 hC.c3
  have c4 := blk_cell B 4 hC.c4
  have c5 := blk_cell B 5 hC.c5
  have c38 := blk_cell B 38 hC.c38
  have c39 := blk_cell B 39 hC.c39
  have c40 := blk_cell B 40 hC.c40
  simp only at c0 c1 c2 c3 c4 c5 c38 c39 c40
  clear hC B
  have _ := h0
  have _ := h1
  go_enter Try.func13, Try.ntmps13
  go_upto_region 1 with fail
  refine wp_region_list ?_
  have KW := K
  clear K
  refine wpList_hide (fun ops hO => ?_)
  have hj3 : (ops[3]?).bind (·.dst) = some 6 := by rw [hO]; rfl
  have hj8 : (ops[8]?).bind (·.dst) = some 11 := by rw [hO]; rfl
  have hj13 : (ops[13]?).bind (·.dst) = some 16 := by rw [hO]; rfl
  have hj18 : (ops[18]?).bind (·.dst) = some 21 := by rw [hO]; rfl
  have hj23 : (ops[23]?).bind (·.dst) = some 26 := by rw [hO]; rfl
  have hj28 : (ops[28]?).bind (·.dst) = some 31 := by rw [hO]; rfl
  have hj35 : (ops[35]?).bind (·.dst) = some 38 := by rw [hO]; rfl
  have hj39 : (ops[39]?).bind (·.dst) = some 42 := by rw [hO]; rfl
  have hj45 : (ops[45]?).bind (·.dst) = some 48 := by rw [hO]; rfl
  have hj50 : (ops[50]?).bind (·.dst) = some 53 := by rw [hO]; rfl
  have hj55 : (ops[55]?).bind (·.dst) = some 58 := by rw [hO]; rfl
  have hj60 : (ops[60]?).bind (·.dst) = some 63 := by rw [hO]; rfl
  have hj65 : (ops[65]?).bind (·.dst) = some 68 := by rw [hO]; rfl
  have hj71 : (ops[71]?).bind (·.dst) = some 74 := by rw [hO]; rfl
  have hj77 : (ops[77]?).bind (·.dst) = some 80 := by rw [hO]; rfl
  have hj83 : (ops[83]?).bind (·.dst) = some 86 := by rw [hO]; rfl
  clear hO
  repeat (refine wpList_val (fun K hK => ?_); have HK := shut hK; clear hK; (try simp only [Region.wanted, yielded, hj3, hj8, hj13, hj18, hj23, hj28, hj35, hj39, hj45, hj50, hj55, hj60, hj65, hj71, hj77, hj83, Option.bind_some]); go_simp; refine HK.out _ ?_; clear HK K)
  go_wp2_with fail
  all_goals go_ret
  all_goals exact ⟨rfl, KW⟩

set_option maxRecDepth 100000 in
set_option maxHeartbeats 4000000 in
theorem rmay_2 {w : World} {C : Array Value} {k f t c ep : Int} {nm hs : List UInt8} {hh : List (List UInt8)} {bl sg : List UInt8} {ao : Option Addr} {cap : Nat} (hC : MsgC C ⟨k, f, t, c, ep, nm, hs, hh, bl, sg⟩ ao cap)
    (h0 : 1 ≤ k) (h1 : k ≤ 8) (h2 : ¬ 0 ≤ f) : Calls Try.prog 13 #[.agg C] w fun e w' => e = .returned (.bool false) ∧ Keeps Nothing w w' := by
  have B := blk_new w C 26
  have K := (Keeps.refl Nothing w).alloc (.cells C 26)
  have c0 := blk_cell B 0 hC.c0
  have c1 := blk_cell B 1 hC.c1
  have c2 := blk_cell B 2 hC.c2
  have c3 := blk_cell B 3 hC.c3
  have c4 := blk_cell B 4 hC.c4
  have c5 := blk_cell B 5 hC.c5
  have c38 := blk_cell B 38 hC.c38
  have c39 := blk_cell B 39 hC.c39
  have c40 := blk_cell B 40 hC.c40
  simp only at c0 c1 c2 c3 c4 c5 c38 c39 c40
  clear hC B
  have _ := h0
  have _ := h1
  have _ := h2
  go_enter Try.func13, Try.ntmps13
  go_upto_region 1 with fail
  refine wp_region_list ?_
  have KW := K
  clear K
  refine wpList_hide (fun ops hO => ?_)
  have hj3 : (ops[3]?).bind (·.dst) = some 6 := by rw [hO]; rfl
  have hj8 : (ops[8]?).bind (·.dst) = some 11 := by rw [hO]; rfl
  have hj13 : (ops[13]?).bind (·.dst) = some 16 := by rw [hO]; rfl
  have hj18 : (ops[18]?).bind (·.dst) = some 21 := by rw [hO]; rfl
  have hj23 : (ops[23]?).bind (·.dst) = some 26 := by rw [hO]; rfl
  have hj28 : (ops[28]?).bind (·.dst) = some 31 := by rw [hO]; rfl
  have hj35 : (ops[35]?).bind (·.dst) = some 38 := by rw [hO]; rfl
  have hj39 : (ops[39]?).bind (·.dst) = some 42 := by rw [hO]; rfl
  have hj45 : (ops[45]?).bind (·.dst) = some 48 := by rw [hO]; rfl
  have hj50 : (ops[50]?).bind (·.dst) = some 53 := by rw [hO]; rfl
  have hj55 : (ops[55]?).bind (·.dst) = some 58 := by rw [hO]; rfl
  have hj60 : (ops[60]?).bind (·.dst) = some 63 := by rw [hO]; rfl
  have hj65 : (ops[65]?).bind (·.dst) = some 68 := by rw [hO]; rfl
  have hj71 : (ops[71]?).bind (·.dst) = some 74 := by rw [hO]; rfl
  have hj77 : (ops[77]?).bind (·.dst) = some 80 := by rw [hO]; rfl
  have hj83 : (ops[83]?).bind (·.dst) = some 86 := by rw [hO]; rfl
  clear hO
  repeat (refine wpList_val (fun K hK => ?_); have HK := shut hK; clear hK; (try simp only [Region.wanted, yielded, hj3, hj8, hj13, hj18, hj23, hj28, hj35, hj39, hj45, hj50, hj55, hj60, hj65, hj71, hj77, hj83, Option.bind_some]); go_simp; refine HK.out _ ?_; clear HK K)
  go_wp2_with fail
  all_goals go_ret
  all_goals exact ⟨rfl, KW⟩

set_option maxRecDepth 100000 in
set_option maxHeartbeats 4000000 in
theorem rmay_3 {w : World} {C : Array Value} {k f t c ep : Int} {nm hs : List UInt8} {hh : List (List UInt8)} {bl sg : List UInt8} {ao : Option Addr} {cap : Nat} (hC : MsgC C ⟨k, f, t, c, ep, nm, hs, hh, bl, sg⟩ ao cap)
    (h0 : 1 ≤ k) (h1 : k ≤ 8) (h2 : 0 ≤ f) (h3 : ¬ f ≤ 64) : Calls Try.prog 13 #[.agg C] w fun e w' => e = .returned (.bool false) ∧ Keeps Nothing w w' := by
  have B := blk_new w C 26
  have K := (Keeps.refl Nothing w).alloc (.cells C 26)
  have c0 := blk_cell B 0 hC.c0
  have c1 := blk_cell B 1 hC.c1
  have c2 := blk_cell B 2 hC.c2
  have c3 := blk_cell B 3 hC.c3
  have c4 := blk_cell B 4 hC.c4
  have c5 := blk_cell B 5 hC.c5
  have c38 := blk_cell B 38 hC.c38
  have c39 := blk_cell B 39 hC.c39
  have c40 := blk_cell B 40 hC.c40
  simp only at c0 c1 c2 c3 c4 c5 c38 c39 c40
  clear hC B
  have _ := h0
  have _ := h1
  have _ := h2
  have _ := h3
  go_enter Try.func13, Try.ntmps13
  go_upto_region 1 with fail
  refine wp_region_list ?_
  have KW := K
  clear K
  refine wpList_hide (fun ops hO => ?_)
  have hj3 : (ops[3]?).bind (·.dst) = some 6 := by rw [hO]; rfl
  have hj8 : (ops[8]?).bind (·.dst) = some 11 := by rw [hO]; rfl
  have hj13 : (ops[13]?).bind (·.dst) = some 16 := by rw [hO]; rfl
  have hj18 : (ops[18]?).bind (·.dst) = some 21 := by rw [hO]; rfl
  have hj23 : (ops[23]?).bind (·.dst) = some 26 := by rw [hO]; rfl
  have hj28 : (ops[28]?).bind (·.dst) = some 31 := by rw [hO]; rfl
  have hj35 : (ops[35]?).bind (·.dst) = some 38 := by rw [hO]; rfl
  have hj39 : (ops[39]?).bind (·.dst) = some 42 := by rw [hO]; rfl
  have hj45 : (ops[45]?).bind (·.dst) = some 48 := by rw [hO]; rfl
  have hj50 : (ops[50]?).bind (·.dst) = some 53 := by rw [hO]; rfl
  have hj55 : (ops[55]?).bind (·.dst) = some 58 := by rw [hO]; rfl
  have hj60 : (ops[60]?).bind (·.dst) = some 63 := by rw [hO]; rfl
  have hj65 : (ops[65]?).bind (·.dst) = some 68 := by rw [hO]; rfl
  have hj71 : (ops[71]?).bind (·.dst) = some 74 := by rw [hO]; rfl
  have hj77 : (ops[77]?).bind (·.dst) = some 80 := by rw [hO]; rfl
  have hj83 : (ops[83]?).bind (·.dst) = some 86 := by rw [hO]; rfl
  clear hO
  repeat (refine wpList_val (fun K hK => ?_); have HK := shut hK; clear hK; (try simp only [Region.wanted, yielded, hj3, hj8, hj13, hj18, hj23, hj28, hj35, hj39, hj45, hj50, hj55, hj60, hj65, hj71, hj77, hj83, Option.bind_some]); go_simp; refine HK.out _ ?_; clear HK K)
  go_wp2_with fail
  all_goals go_ret
  all_goals exact ⟨rfl, KW⟩

set_option maxRecDepth 100000 in
set_option maxHeartbeats 4000000 in
theorem rmay_4 {w : World} {C : Array Value} {k f t c ep : Int} {nm hs : List UInt8} {hh : List (List UInt8)} {bl sg : List UInt8} {ao : Option Addr} {cap : Nat} (hC : MsgC C ⟨k, f, t, c, ep, nm, hs, hh, bl, sg⟩ ao cap)
    (h0 : 1 ≤ k) (h1 : k ≤ 8) (h2 : 0 ≤ f) (h3 : f ≤ 64) (h4 : ¬ 0 ≤ t) : Calls Try.prog 13 #[.agg C] w fun e w' => e = .returned (.bool false) ∧ Keeps Nothing w w' := by
  have B := blk_new w C 26
  have K := (Keeps.refl Nothing w).alloc (.cells C 26)
  have c0 := blk_cell B 0 hC.c0
  have c1 := blk_cell B 1 hC.c1
  have c2 := blk_cell B 2 hC.c2
  have c3 := blk_cell B 3 hC.c3
  have c4 := blk_cell B 4 hC.c4
  have c5 := blk_cell B 5 hC.c5
  have c38 := blk_cell B 38 hC.c38
  have c39 := blk_cell B 39 hC.c39
  have c40 := blk_cell B 40 hC.c40
  simp only at c0 c1 c2 c3 c4 c5 c38 c39 c40
  clear hC B
  have _ := h0
  have _ := h1
  have _ := h2
  have _ := h3
  have _ := h4
  go_enter Try.func13, Try.ntmps13
  go_upto_region 1 with fail
  refine wp_region_list ?_
  have KW := K
  clear K
  refine wpList_hide (fun ops hO => ?_)
  have hj3 : (ops[3]?).bind (·.dst) = some 6 := by rw [hO]; rfl
  have hj8 : (ops[8]?).bind (·.dst) = some 11 := by rw [hO]; rfl
  have hj13 : (ops[13]?).bind (·.dst) = some 16 := by rw [hO]; rfl
  have hj18 : (ops[18]?).bind (·.dst) = some 21 := by rw [hO]; rfl
  have hj23 : (ops[23]?).bind (·.dst) = some 26 := by rw [hO]; rfl
  have hj28 : (ops[28]?).bind (·.dst) = some 31 := by rw [hO]; rfl
  have hj35 : (ops[35]?).bind (·.dst) = some 38 := by rw [hO]; rfl
  have hj39 : (ops[39]?).bind (·.dst) = some 42 := by rw [hO]; rfl
  have hj45 : (ops[45]?).bind (·.dst) = some 48 := by rw [hO]; rfl
  have hj50 : (ops[50]?).bind (·.dst) = some 53 := by rw [hO]; rfl
  have hj55 : (ops[55]?).bind (·.dst) = some 58 := by rw [hO]; rfl
  have hj60 : (ops[60]?).bind (·.dst) = some 63 := by rw [hO]; rfl
  have hj65 : (ops[65]?).bind (·.dst) = some 68 := by rw [hO]; rfl
  have hj71 : (ops[71]?).bind (·.dst) = some 74 := by rw [hO]; rfl
  have hj77 : (ops[77]?).bind (·.dst) = some 80 := by rw [hO]; rfl
  have hj83 : (ops[83]?).bind (·.dst) = some 86 := by rw [hO]; rfl
  clear hO
  repeat (refine wpList_val (fun K hK => ?_); have HK := shut hK; clear hK; (try simp only [Region.wanted, yielded, hj3, hj8, hj13, hj18, hj23, hj28, hj35, hj39, hj45, hj50, hj55, hj60, hj65, hj71, hj77, hj83, Option.bind_some]); go_simp; refine HK.out _ ?_; clear HK K)
  go_wp2_with fail
  all_goals go_ret
  all_goals exact ⟨rfl, KW⟩

set_option maxRecDepth 100000 in
set_option maxHeartbeats 4000000 in
theorem rmay_5 {w : World} {C : Array Value} {k f t c ep : Int} {nm hs : List UInt8} {hh : List (List UInt8)} {bl sg : List UInt8} {ao : Option Addr} {cap : Nat} (hC : MsgC C ⟨k, f, t, c, ep, nm, hs, hh, bl, sg⟩ ao cap)
    (h0 : 1 ≤ k) (h1 : k ≤ 8) (h2 : 0 ≤ f) (h3 : f ≤ 64) (h4 : 0 ≤ t) (h5 : ¬ t ≤ 64) : Calls Try.prog 13 #[.agg C] w fun e w' => e = .returned (.bool false) ∧ Keeps Nothing w w' := by
  have B := blk_new w C 26
  have K := (Keeps.refl Nothing w).alloc (.cells C 26)
  have c0 := blk_cell B 0 hC.c0
  have c1 := blk_cell B 1 hC.c1
  have c2 := blk_cell B 2 hC.c2
  have c3 := blk_cell B 3 hC.c3
  have c4 := blk_cell B 4 hC.c4
  have c5 := blk_cell B 5 hC.c5
  have c38 := blk_cell B 38 hC.c38
  have c39 := blk_cell B 39 hC.c39
  have c40 := blk_cell B 40 hC.c40
  simp only at c0 c1 c2 c3 c4 c5 c38 c39 c40
  clear hC B
  have _ := h0
  have _ := h1
  have _ := h2
  have _ := h3
  have _ := h4
  have _ := h5
  go_enter Try.func13, Try.ntmps13
  go_upto_region 1 with fail
  refine wp_region_list ?_
  have KW := K
  clear K
  refine wpList_hide (fun ops hO => ?_)
  have hj3 : (ops[3]?).bind (·.dst) = some 6 := by rw [hO]; rfl
  have hj8 : (ops[8]?).bind (·.dst) = some 11 := by rw [hO]; rfl
  have hj13 : (ops[13]?).bind (·.dst) = some 16 := by rw [hO]; rfl
  have hj18 : (ops[18]?).bind (·.dst) = some 21 := by rw [hO]; rfl
  have hj23 : (ops[23]?).bind (·.dst) = some 26 := by rw [hO]; rfl
  have hj28 : (ops[28]?).bind (·.dst) = some 31 := by rw [hO]; rfl
  have hj35 : (ops[35]?).bind (·.dst) = some 38 := by rw [hO]; rfl
  have hj39 : (ops[39]?).bind (·.dst) = some 42 := by rw [hO]; rfl
  have hj45 : (ops[45]?).bind (·.dst) = some 48 := by rw [hO]; rfl
  have hj50 : (ops[50]?).bind (·.dst) = some 53 := by rw [hO]; rfl
  have hj55 : (ops[55]?).bind (·.dst) = some 58 := by rw [hO]; rfl
  have hj60 : (ops[60]?).bind (·.dst) = some 63 := by rw [hO]; rfl
  have hj65 : (ops[65]?).bind (·.dst) = some 68 := by rw [hO]; rfl
  have hj71 : (ops[71]?).bind (·.dst) = some 74 := by rw [hO]; rfl
  have hj77 : (ops[77]?).bind (·.dst) = some 80 := by rw [hO]; rfl
  have hj83 : (ops[83]?).bind (·.dst) = some 86 := by rw [hO]; rfl
  clear hO
  repeat (refine wpList_val (fun K hK => ?_); have HK := shut hK; clear hK; (try simp only [Region.wanted, yielded, hj3, hj8, hj13, hj18, hj23, hj28, hj35, hj39, hj45, hj50, hj55, hj60, hj65, hj71, hj77, hj83, Option.bind_some]); go_simp; refine HK.out _ ?_; clear HK K)
  go_wp2_with fail
  all_goals go_ret
  all_goals exact ⟨rfl, KW⟩

set_option maxRecDepth 100000 in
set_option maxHeartbeats 4000000 in
theorem rmay_6 {w : World} {C : Array Value} {k f t c ep : Int} {nm hs : List UInt8} {hh : List (List UInt8)} {bl sg : List UInt8} {ao : Option Addr} {cap : Nat} (hC : MsgC C ⟨k, f, t, c, ep, nm, hs, hh, bl, sg⟩ ao cap)
    (h0 : 1 ≤ k) (h1 : k ≤ 8) (h2 : 0 ≤ f) (h3 : f ≤ 64) (h4 : 0 ≤ t) (h5 : t ≤ 64) (h6 : f = t) : Calls Try.prog 13 #[.agg C] w fun e w' => e = .returned (.bool false) ∧ Keeps Nothing w w' := by
  have B := blk_new w C 26
  have K := (Keeps.refl Nothing w).alloc (.cells C 26)
  have c0 := blk_cell B 0 hC.c0
  have c1 := blk_cell B 1 hC.c1
  have c2 := blk_cell B 2 hC.c2
  have c3 := blk_cell B 3 hC.c3
  have c4 := blk_cell B 4 hC.c4
  have c5 := blk_cell B 5 hC.c5
  have c38 := blk_cell B 38 hC.c38
  have c39 := blk_cell B 39 hC.c39
  have c40 := blk_cell B 40 hC.c40
  simp only at c0 c1 c2 c3 c4 c5 c38 c39 c40
  clear hC B
  have _ := h0
  have _ := h1
  have _ := h2
  have _ := h3
  have _ := h4
  have _ := h5
  have _ := h6
  go_enter Try.func13, Try.ntmps13
  go_upto_region 1 with fail
  refine wp_region_list ?_
  have KW := K
  clear K
  refine wpList_hide (fun ops hO => ?_)
  have hj3 : (ops[3]?).bind (·.dst) = some 6 := by rw [hO]; rfl
  have hj8 : (ops[8]?).bind (·.dst) = some 11 := by rw [hO]; rfl
  have hj13 : (ops[13]?).bind (·.dst) = some 16 := by rw [hO]; rfl
  have hj18 : (ops[18]?).bind (·.dst) = some 21 := by rw [hO]; rfl
  have hj23 : (ops[23]?).bind (·.dst) = some 26 := by rw [hO]; rfl
  have hj28 : (ops[28]?).bind (·.dst) = some 31 := by rw [hO]; rfl
  have hj35 : (ops[35]?).bind (·.dst) = some 38 := by rw [hO]; rfl
  have hj39 : (ops[39]?).bind (·.dst) = some 42 := by rw [hO]; rfl
  have hj45 : (ops[45]?).bind (·.dst) = some 48 := by rw [hO]; rfl
  have hj50 : (ops[50]?).bind (·.dst) = some 53 := by rw [hO]; rfl
  have hj55 : (ops[55]?).bind (·.dst) = some 58 := by rw [hO]; rfl
  have hj60 : (ops[60]?).bind (·.dst) = some 63 := by rw [hO]; rfl
  have hj65 : (ops[65]?).bind (·.dst) = some 68 := by rw [hO]; rfl
  have hj71 : (ops[71]?).bind (·.dst) = some 74 := by rw [hO]; rfl
  have hj77 : (ops[77]?).bind (·.dst) = some 80 := by rw [hO]; rfl
  have hj83 : (ops[83]?).bind (·.dst) = some 86 := by rw [hO]; rfl
  clear hO
  repeat (refine wpList_val (fun K hK => ?_); have HK := shut hK; clear hK; (try simp only [Region.wanted, yielded, hj3, hj8, hj13, hj18, hj23, hj28, hj35, hj39, hj45, hj50, hj55, hj60, hj65, hj71, hj77, hj83, Option.bind_some]); go_simp; refine HK.out _ ?_; clear HK K)
  go_wp2_with fail
  all_goals go_ret
  all_goals exact ⟨rfl, KW⟩

set_option maxRecDepth 100000 in
set_option maxHeartbeats 4000000 in
theorem rmay_7 {w : World} {C : Array Value} {k f t c ep : Int} {nm hs : List UInt8} {hh : List (List UInt8)} {bl sg : List UInt8} {ao : Option Addr} {cap : Nat} (hC : MsgC C ⟨k, f, t, c, ep, nm, hs, hh, bl, sg⟩ ao cap)
    (h0 : 1 ≤ k) (h1 : k ≤ 8) (h2 : 0 ≤ f) (h3 : f ≤ 64) (h4 : 0 ≤ t) (h5 : t ≤ 64) (h6 : ¬ f = t) (g1 : ¬ f = 0) (g2 : ¬ t = 0) : Calls Try.prog 13 #[.agg C] w fun e w' => e = .returned (.bool false) ∧ Keeps Nothing w w' := by
  have B := blk_new w C 26
  have K := (Keeps.refl Nothing w).alloc (.cells C 26)
  have c0 := blk_cell B 0 hC.c0
  have c1 := blk_cell B 1 hC.c1
  have c2 := blk_cell B 2 hC.c2
  have c3 := blk_cell B 3 hC.c3
  have c4 := blk_cell B 4 hC.c4
  have c5 := blk_cell B 5 hC.c5
  have c38 := blk_cell B 38 hC.c38
  have c39 := blk_cell B 39 hC.c39
  have c40 := blk_cell B 40 hC.c40
  simp only at c0 c1 c2 c3 c4 c5 c38 c39 c40
  clear hC B
  have _ := h0
  have _ := h1
  have _ := h2
  have _ := h3
  have _ := h4
  have _ := h5
  have _ := h6
  have _ := g1
  have _ := g2
  have e6 : (f != t) = true := by simp only [bne_iff_ne, ne_eq]; omega
  go_enter Try.func13, Try.ntmps13
  go_upto_region 1 with fail
  refine wp_region_list ?_
  have KW := K
  clear K
  refine wpList_hide (fun ops hO => ?_)
  have hj3 : (ops[3]?).bind (·.dst) = some 6 := by rw [hO]; rfl
  have hj8 : (ops[8]?).bind (·.dst) = some 11 := by rw [hO]; rfl
  have hj13 : (ops[13]?).bind (·.dst) = some 16 := by rw [hO]; rfl
  have hj18 : (ops[18]?).bind (·.dst) = some 21 := by rw [hO]; rfl
  have hj23 : (ops[23]?).bind (·.dst) = some 26 := by rw [hO]; rfl
  have hj28 : (ops[28]?).bind (·.dst) = some 31 := by rw [hO]; rfl
  have hj35 : (ops[35]?).bind (·.dst) = some 38 := by rw [hO]; rfl
  have hj39 : (ops[39]?).bind (·.dst) = some 42 := by rw [hO]; rfl
  have hj45 : (ops[45]?).bind (·.dst) = some 48 := by rw [hO]; rfl
  have hj50 : (ops[50]?).bind (·.dst) = some 53 := by rw [hO]; rfl
  have hj55 : (ops[55]?).bind (·.dst) = some 58 := by rw [hO]; rfl
  have hj60 : (ops[60]?).bind (·.dst) = some 63 := by rw [hO]; rfl
  have hj65 : (ops[65]?).bind (·.dst) = some 68 := by rw [hO]; rfl
  have hj71 : (ops[71]?).bind (·.dst) = some 74 := by rw [hO]; rfl
  have hj77 : (ops[77]?).bind (·.dst) = some 80 := by rw [hO]; rfl
  have hj83 : (ops[83]?).bind (·.dst) = some 86 := by rw [hO]; rfl
  clear hO
  repeat (refine wpList_val (fun K hK => ?_); have HK := shut hK; clear hK; (try simp only [Region.wanted, yielded, hj3, hj8, hj13, hj18, hj23, hj28, hj35, hj39, hj45, hj50, hj55, hj60, hj65, hj71, hj77, hj83, Option.bind_some]); go_simp; refine HK.out _ ?_; clear HK K)
  go_wp2_with fail
  all_goals go_ret
  all_goals exact ⟨rfl, KW⟩

set_option maxRecDepth 100000 in
set_option maxHeartbeats 4000000 in
theorem rmay_8a {w : World} {C : Array Value} {k f t c ep : Int} {nm hs : List UInt8} {hh : List (List UInt8)} {bl sg : List UInt8} {ao : Option Addr} {cap : Nat} (hC : MsgC C ⟨k, f, t, c, ep, nm, hs, hh, bl, sg⟩ ao cap)
    (h0 : 1 ≤ k) (h1 : k ≤ 8) (h2 : 0 ≤ f) (h3 : f ≤ 64) (h4 : 0 ≤ t) (h5 : t ≤ 64) (h6 : ¬ f = t) (g1 : f = 0) (h8 : ¬ 0 ≤ c) : Calls Try.prog 13 #[.agg C] w fun e w' => e = .returned (.bool false) ∧ Keeps Nothing w w' := by
  have B := blk_new w C 26
  have K := (Keeps.refl Nothing w).alloc (.cells C 26)
  have c0 := blk_cell B 0 hC.c0
  have c1 := blk_cell B 1 hC.c1
  have c2 := blk_cell B 2 hC.c2
  have c3 := blk_cell B 3 hC.c3
  have c4 := blk_cell B 4 hC.c4
  have c5 := blk_cell B 5 hC.c5
  have c38 := blk_cell B 38 hC.c38
  have c39 := blk_cell B 39 hC.c39
  have c40 := blk_cell B 40 hC.c40
  simp only at c0 c1 c2 c3 c4 c5 c38 c39 c40
  clear hC B
  have _ := h0
  have _ := h1
  have _ := h2
  have _ := h3
  have _ := h4
  have _ := h5
  have _ := h6
  have _ := g1
  have _ := h8
  have e6 : (f != t) = true := by simp only [bne_iff_ne, ne_eq]; omega
  have e7 : (0 != t) = true := by simp only [bne_iff_ne, ne_eq]; omega
  have e8 : (f == 0) = true := by rw [g1]; rfl
  go_enter Try.func13, Try.ntmps13
  go_upto_region 1 with fail
  refine wp_region_list ?_
  have KW := K
  clear K
  refine wpList_hide (fun ops hO => ?_)
  have hj3 : (ops[3]?).bind (·.dst) = some 6 := by rw [hO]; rfl
  have hj8 : (ops[8]?).bind (·.dst) = some 11 := by rw [hO]; rfl
  have hj13 : (ops[13]?).bind (·.dst) = some 16 := by rw [hO]; rfl
  have hj18 : (ops[18]?).bind (·.dst) = some 21 := by rw [hO]; rfl
  have hj23 : (ops[23]?).bind (·.dst) = some 26 := by rw [hO]; rfl
  have hj28 : (ops[28]?).bind (·.dst) = some 31 := by rw [hO]; rfl
  have hj35 : (ops[35]?).bind (·.dst) = some 38 := by rw [hO]; rfl
  have hj39 : (ops[39]?).bind (·.dst) = some 42 := by rw [hO]; rfl
  have hj45 : (ops[45]?).bind (·.dst) = some 48 := by rw [hO]; rfl
  have hj50 : (ops[50]?).bind (·.dst) = some 53 := by rw [hO]; rfl
  have hj55 : (ops[55]?).bind (·.dst) = some 58 := by rw [hO]; rfl
  have hj60 : (ops[60]?).bind (·.dst) = some 63 := by rw [hO]; rfl
  have hj65 : (ops[65]?).bind (·.dst) = some 68 := by rw [hO]; rfl
  have hj71 : (ops[71]?).bind (·.dst) = some 74 := by rw [hO]; rfl
  have hj77 : (ops[77]?).bind (·.dst) = some 80 := by rw [hO]; rfl
  have hj83 : (ops[83]?).bind (·.dst) = some 86 := by rw [hO]; rfl
  clear hO
  repeat (refine wpList_val (fun K hK => ?_); have HK := shut hK; clear hK; (try simp only [Region.wanted, yielded, hj3, hj8, hj13, hj18, hj23, hj28, hj35, hj39, hj45, hj50, hj55, hj60, hj65, hj71, hj77, hj83, Option.bind_some]); go_simp; refine HK.out _ ?_; clear HK K)
  go_wp2_with fail
  all_goals go_ret
  all_goals exact ⟨rfl, KW⟩

set_option maxRecDepth 100000 in
set_option maxHeartbeats 4000000 in
theorem rmay_8b {w : World} {C : Array Value} {k f t c ep : Int} {nm hs : List UInt8} {hh : List (List UInt8)} {bl sg : List UInt8} {ao : Option Addr} {cap : Nat} (hC : MsgC C ⟨k, f, t, c, ep, nm, hs, hh, bl, sg⟩ ao cap)
    (h0 : 1 ≤ k) (h1 : k ≤ 8) (h2 : 0 ≤ f) (h3 : f ≤ 64) (h4 : 0 ≤ t) (h5 : t ≤ 64) (h6 : ¬ f = t) (g1 : ¬ f = 0) (g2 : t = 0) (h8 : ¬ 0 ≤ c) : Calls Try.prog 13 #[.agg C] w fun e w' => e = .returned (.bool false) ∧ Keeps Nothing w w' := by
  have B := blk_new w C 26
  have K := (Keeps.refl Nothing w).alloc (.cells C 26)
  have c0 := blk_cell B 0 hC.c0
  have c1 := blk_cell B 1 hC.c1
  have c2 := blk_cell B 2 hC.c2
  have c3 := blk_cell B 3 hC.c3
  have c4 := blk_cell B 4 hC.c4
  have c5 := blk_cell B 5 hC.c5
  have c38 := blk_cell B 38 hC.c38
  have c39 := blk_cell B 39 hC.c39
  have c40 := blk_cell B 40 hC.c40
  simp only at c0 c1 c2 c3 c4 c5 c38 c39 c40
  clear hC B
  have _ := h0
  have _ := h1
  have _ := h2
  have _ := h3
  have _ := h4
  have _ := h5
  have _ := h6
  have _ := g1
  have _ := g2
  have _ := h8
  have e6 : (f != t) = true := by simp only [bne_iff_ne, ne_eq]; omega
  have e7 : (f != 0) = true := by simp only [bne_iff_ne, ne_eq]; omega
  have e8 : (f == 0) = false := by rw [beq_eq_false_iff_ne]; omega
  go_enter Try.func13, Try.ntmps13
  go_upto_region 1 with fail
  refine wp_region_list ?_
  have KW := K
  clear K
  refine wpList_hide (fun ops hO => ?_)
  have hj3 : (ops[3]?).bind (·.dst) = some 6 := by rw [hO]; rfl
  have hj8 : (ops[8]?).bind (·.dst) = some 11 := by rw [hO]; rfl
  have hj13 : (ops[13]?).bind (·.dst) = some 16 := by rw [hO]; rfl
  have hj18 : (ops[18]?).bind (·.dst) = some 21 := by rw [hO]; rfl
  have hj23 : (ops[23]?).bind (·.dst) = some 26 := by rw [hO]; rfl
  have hj28 : (ops[28]?).bind (·.dst) = some 31 := by rw [hO]; rfl
  have hj35 : (ops[35]?).bind (·.dst) = some 38 := by rw [hO]; rfl
  have hj39 : (ops[39]?).bind (·.dst) = some 42 := by rw [hO]; rfl
  have hj45 : (ops[45]?).bind (·.dst) = some 48 := by rw [hO]; rfl
  have hj50 : (ops[50]?).bind (·.dst) = some 53 := by rw [hO]; rfl
  have hj55 : (ops[55]?).bind (·.dst) = some 58 := by rw [hO]; rfl
  have hj60 : (ops[60]?).bind (·.dst) = some 63 := by rw [hO]; rfl
  have hj65 : (ops[65]?).bind (·.dst) = some 68 := by rw [hO]; rfl
  have hj71 : (ops[71]?).bind (·.dst) = some 74 := by rw [hO]; rfl
  have hj77 : (ops[77]?).bind (·.dst) = some 80 := by rw [hO]; rfl
  have hj83 : (ops[83]?).bind (·.dst) = some 86 := by rw [hO]; rfl
  clear hO
  repeat (refine wpList_val (fun K hK => ?_); have HK := shut hK; clear hK; (try simp only [Region.wanted, yielded, hj3, hj8, hj13, hj18, hj23, hj28, hj35, hj39, hj45, hj50, hj55, hj60, hj65, hj71, hj77, hj83, Option.bind_some]); go_simp; refine HK.out _ ?_; clear HK K)
  go_wp2_with fail
  all_goals go_ret
  all_goals exact ⟨rfl, KW⟩

set_option maxRecDepth 100000 in
set_option maxHeartbeats 4000000 in
theorem rmay_9a {w : World} {C : Array Value} {k f t c ep : Int} {nm hs : List UInt8} {hh : List (List UInt8)} {bl sg : List UInt8} {ao : Option Addr} {cap : Nat} (hC : MsgC C ⟨k, f, t, c, ep, nm, hs, hh, bl, sg⟩ ao cap)
    (h0 : 1 ≤ k) (h1 : k ≤ 8) (h2 : 0 ≤ f) (h3 : f ≤ 64) (h4 : 0 ≤ t) (h5 : t ≤ 64) (h6 : ¬ f = t) (h8 : 0 ≤ c) (g1 : f = 0) (h9 : ¬ c ≤ 63) : Calls Try.prog 13 #[.agg C] w fun e w' => e = .returned (.bool false) ∧ Keeps Nothing w w' := by
  have B := blk_new w C 26
  have K := (Keeps.refl Nothing w).alloc (.cells C 26)
  have c0 := blk_cell B 0 hC.c0
  have c1 := blk_cell B 1 hC.c1
  have c2 := blk_cell B 2 hC.c2
  have c3 := blk_cell B 3 hC.c3
  have c4 := blk_cell B 4 hC.c4
  have c5 := blk_cell B 5 hC.c5
  have c38 := blk_cell B 38 hC.c38
  have c39 := blk_cell B 39 hC.c39
  have c40 := blk_cell B 40 hC.c40
  simp only at c0 c1 c2 c3 c4 c5 c38 c39 c40
  clear hC B
  have _ := h0
  have _ := h1
  have _ := h2
  have _ := h3
  have _ := h4
  have _ := h5
  have _ := h6
  have _ := h8
  have _ := g1
  have _ := h9
  have e6 : (f != t) = true := by simp only [bne_iff_ne, ne_eq]; omega
  have e7 : (0 != t) = true := by simp only [bne_iff_ne, ne_eq]; omega
  have e8 : (f == 0) = true := by rw [g1]; rfl
  go_enter Try.func13, Try.ntmps13
  go_upto_region 1 with fail
  refine wp_region_list ?_
  have KW := K
  clear K
  refine wpList_hide (fun ops hO => ?_)
  have hj3 : (ops[3]?).bind (·.dst) = some 6 := by rw [hO]; rfl
  have hj8 : (ops[8]?).bind (·.dst) = some 11 := by rw [hO]; rfl
  have hj13 : (ops[13]?).bind (·.dst) = some 16 := by rw [hO]; rfl
  have hj18 : (ops[18]?).bind (·.dst) = some 21 := by rw [hO]; rfl
  have hj23 : (ops[23]?).bind (·.dst) = some 26 := by rw [hO]; rfl
  have hj28 : (ops[28]?).bind (·.dst) = some 31 := by rw [hO]; rfl
  have hj35 : (ops[35]?).bind (·.dst) = some 38 := by rw [hO]; rfl
  have hj39 : (ops[39]?).bind (·.dst) = some 42 := by rw [hO]; rfl
  have hj45 : (ops[45]?).bind (·.dst) = some 48 := by rw [hO]; rfl
  have hj50 : (ops[50]?).bind (·.dst) = some 53 := by rw [hO]; rfl
  have hj55 : (ops[55]?).bind (·.dst) = some 58 := by rw [hO]; rfl
  have hj60 : (ops[60]?).bind (·.dst) = some 63 := by rw [hO]; rfl
  have hj65 : (ops[65]?).bind (·.dst) = some 68 := by rw [hO]; rfl
  have hj71 : (ops[71]?).bind (·.dst) = some 74 := by rw [hO]; rfl
  have hj77 : (ops[77]?).bind (·.dst) = some 80 := by rw [hO]; rfl
  have hj83 : (ops[83]?).bind (·.dst) = some 86 := by rw [hO]; rfl
  clear hO
  repeat (refine wpList_val (fun K hK => ?_); have HK := shut hK; clear hK; (try simp only [Region.wanted, yielded, hj3, hj8, hj13, hj18, hj23, hj28, hj35, hj39, hj45, hj50, hj55, hj60, hj65, hj71, hj77, hj83, Option.bind_some]); go_simp; refine HK.out _ ?_; clear HK K)
  go_wp2_with fail
  all_goals go_ret
  all_goals exact ⟨rfl, KW⟩

set_option maxRecDepth 100000 in
set_option maxHeartbeats 4000000 in
theorem rmay_9b {w : World} {C : Array Value} {k f t c ep : Int} {nm hs : List UInt8} {hh : List (List UInt8)} {bl sg : List UInt8} {ao : Option Addr} {cap : Nat} (hC : MsgC C ⟨k, f, t, c, ep, nm, hs, hh, bl, sg⟩ ao cap)
    (h0 : 1 ≤ k) (h1 : k ≤ 8) (h2 : 0 ≤ f) (h3 : f ≤ 64) (h4 : 0 ≤ t) (h5 : t ≤ 64) (h6 : ¬ f = t) (h8 : 0 ≤ c) (g1 : ¬ f = 0) (g2 : t = 0) (h9 : ¬ c ≤ 63) : Calls Try.prog 13 #[.agg C] w fun e w' => e = .returned (.bool false) ∧ Keeps Nothing w w' := by
  have B := blk_new w C 26
  have K := (Keeps.refl Nothing w).alloc (.cells C 26)
  have c0 := blk_cell B 0 hC.c0
  have c1 := blk_cell B 1 hC.c1
  have c2 := blk_cell B 2 hC.c2
  have c3 := blk_cell B 3 hC.c3
  have c4 := blk_cell B 4 hC.c4
  have c5 := blk_cell B 5 hC.c5
  have c38 := blk_cell B 38 hC.c38
  have c39 := blk_cell B 39 hC.c39
  have c40 := blk_cell B 40 hC.c40
  simp only at c0 c1 c2 c3 c4 c5 c38 c39 c40
  clear hC B
  have _ := h0
  have _ := h1
  have _ := h2
  have _ := h3
  have _ := h4
  have _ := h5
  have _ := h6
  have _ := h8
  have _ := g1
  have _ := g2
  have _ := h9
  have e6 : (f != t) = true := by simp only [bne_iff_ne, ne_eq]; omega
  have e7 : (f != 0) = true := by simp only [bne_iff_ne, ne_eq]; omega
  have e8 : (f == 0) = false := by rw [beq_eq_false_iff_ne]; omega
  go_enter Try.func13, Try.ntmps13
  go_upto_region 1 with fail
  refine wp_region_list ?_
  have KW := K
  clear K
  refine wpList_hide (fun ops hO => ?_)
  have hj3 : (ops[3]?).bind (·.dst) = some 6 := by rw [hO]; rfl
  have hj8 : (ops[8]?).bind (·.dst) = some 11 := by rw [hO]; rfl
  have hj13 : (ops[13]?).bind (·.dst) = some 16 := by rw [hO]; rfl
  have hj18 : (ops[18]?).bind (·.dst) = some 21 := by rw [hO]; rfl
  have hj23 : (ops[23]?).bind (·.dst) = some 26 := by rw [hO]; rfl
  have hj28 : (ops[28]?).bind (·.dst) = some 31 := by rw [hO]; rfl
  have hj35 : (ops[35]?).bind (·.dst) = some 38 := by rw [hO]; rfl
  have hj39 : (ops[39]?).bind (·.dst) = some 42 := by rw [hO]; rfl
  have hj45 : (ops[45]?).bind (·.dst) = some 48 := by rw [hO]; rfl
  have hj50 : (ops[50]?).bind (·.dst) = some 53 := by rw [hO]; rfl
  have hj55 : (ops[55]?).bind (·.dst) = some 58 := by rw [hO]; rfl
  have hj60 : (ops[60]?).bind (·.dst) = some 63 := by rw [hO]; rfl
  have hj65 : (ops[65]?).bind (·.dst) = some 68 := by rw [hO]; rfl
  have hj71 : (ops[71]?).bind (·.dst) = some 74 := by rw [hO]; rfl
  have hj77 : (ops[77]?).bind (·.dst) = some 80 := by rw [hO]; rfl
  have hj83 : (ops[83]?).bind (·.dst) = some 86 := by rw [hO]; rfl
  clear hO
  repeat (refine wpList_val (fun K hK => ?_); have HK := shut hK; clear hK; (try simp only [Region.wanted, yielded, hj3, hj8, hj13, hj18, hj23, hj28, hj35, hj39, hj45, hj50, hj55, hj60, hj65, hj71, hj77, hj83, Option.bind_some]); go_simp; refine HK.out _ ?_; clear HK K)
  go_wp2_with fail
  all_goals go_ret
  all_goals exact ⟨rfl, KW⟩

set_option maxRecDepth 100000 in
set_option maxHeartbeats 4000000 in
theorem rmay_10a {w : World} {C : Array Value} {k f t c ep : Int} {nm hs : List UInt8} {hh : List (List UInt8)} {bl sg : List UInt8} {ao : Option Addr} {cap : Nat} (hC : MsgC C ⟨k, f, t, c, ep, nm, hs, hh, bl, sg⟩ ao cap)
    (h0 : 1 ≤ k) (h1 : k ≤ 8) (h2 : 0 ≤ f) (h3 : f ≤ 64) (h4 : 0 ≤ t) (h5 : t ≤ 64) (h6 : ¬ f = t) (h8 : 0 ≤ c) (h9 : c ≤ 63) (g1 : f = 0) (h10 : ¬ 0 ≤ ep) : Calls Try.prog 13 #[.agg C] w fun e w' => e = .returned (.bool false) ∧ Keeps Nothing w w' := by
  have B := blk_new w C 26
  have K := (Keeps.refl Nothing w).alloc (.cells C 26)
  have c0 := blk_cell B 0 hC.c0
  have c1 := blk_cell B 1 hC.c1
  have c2 := blk_cell B 2 hC.c2
  have c3 := blk_cell B 3 hC.c3
  have c4 := blk_cell B 4 hC.c4
  have c5 := blk_cell B 5 hC.c5
  have c38 := blk_cell B 38 hC.c38
  have c39 := blk_cell B 39 hC.c39
  have c40 := blk_cell B 40 hC.c40
  simp only at c0 c1 c2 c3 c4 c5 c38 c39 c40
  clear hC B
  have _ := h0
  have _ := h1
  have _ := h2
  have _ := h3
  have _ := h4
  have _ := h5
  have _ := h6
  have _ := h8
  have _ := h9
  have _ := g1
  have _ := h10
  have e6 : (f != t) = true := by simp only [bne_iff_ne, ne_eq]; omega
  have e7 : (0 != t) = true := by simp only [bne_iff_ne, ne_eq]; omega
  have e8 : (f == 0) = true := by rw [g1]; rfl
  go_enter Try.func13, Try.ntmps13
  go_upto_region 1 with fail
  refine wp_region_list ?_
  have KW := K
  clear K
  refine wpList_hide (fun ops hO => ?_)
  have hj3 : (ops[3]?).bind (·.dst) = some 6 := by rw [hO]; rfl
  have hj8 : (ops[8]?).bind (·.dst) = some 11 := by rw [hO]; rfl
  have hj13 : (ops[13]?).bind (·.dst) = some 16 := by rw [hO]; rfl
  have hj18 : (ops[18]?).bind (·.dst) = some 21 := by rw [hO]; rfl
  have hj23 : (ops[23]?).bind (·.dst) = some 26 := by rw [hO]; rfl
  have hj28 : (ops[28]?).bind (·.dst) = some 31 := by rw [hO]; rfl
  have hj35 : (ops[35]?).bind (·.dst) = some 38 := by rw [hO]; rfl
  have hj39 : (ops[39]?).bind (·.dst) = some 42 := by rw [hO]; rfl
  have hj45 : (ops[45]?).bind (·.dst) = some 48 := by rw [hO]; rfl
  have hj50 : (ops[50]?).bind (·.dst) = some 53 := by rw [hO]; rfl
  have hj55 : (ops[55]?).bind (·.dst) = some 58 := by rw [hO]; rfl
  have hj60 : (ops[60]?).bind (·.dst) = some 63 := by rw [hO]; rfl
  have hj65 : (ops[65]?).bind (·.dst) = some 68 := by rw [hO]; rfl
  have hj71 : (ops[71]?).bind (·.dst) = some 74 := by rw [hO]; rfl
  have hj77 : (ops[77]?).bind (·.dst) = some 80 := by rw [hO]; rfl
  have hj83 : (ops[83]?).bind (·.dst) = some 86 := by rw [hO]; rfl
  clear hO
  repeat (refine wpList_val (fun K hK => ?_); have HK := shut hK; clear hK; (try simp only [Region.wanted, yielded, hj3, hj8, hj13, hj18, hj23, hj28, hj35, hj39, hj45, hj50, hj55, hj60, hj65, hj71, hj77, hj83, Option.bind_some]); go_simp; refine HK.out _ ?_; clear HK K)
  go_wp2_with fail
  all_goals go_ret
  all_goals exact ⟨rfl, KW⟩

set_option maxRecDepth 100000 in
set_option maxHeartbeats 4000000 in
theorem rmay_10b {w : World} {C : Array Value} {k f t c ep : Int} {nm hs : List UInt8} {hh : List (List UInt8)} {bl sg : List UInt8} {ao : Option Addr} {cap : Nat} (hC : MsgC C ⟨k, f, t, c, ep, nm, hs, hh, bl, sg⟩ ao cap)
    (h0 : 1 ≤ k) (h1 : k ≤ 8) (h2 : 0 ≤ f) (h3 : f ≤ 64) (h4 : 0 ≤ t) (h5 : t ≤ 64) (h6 : ¬ f = t) (h8 : 0 ≤ c) (h9 : c ≤ 63) (g1 : ¬ f = 0) (g2 : t = 0) (h10 : ¬ 0 ≤ ep) : Calls Try.prog 13 #[.agg C] w fun e w' => e = .returned (.bool false) ∧ Keeps Nothing w w' := by
  have B := blk_new w C 26
  have K := (Keeps.refl Nothing w).alloc (.cells C 26)
  have c0 := blk_cell B 0 hC.c0
  have c1 := blk_cell B 1 hC.c1
  have c2 := blk_cell B 2 hC.c2
  have c3 := blk_cell B 3 hC.c3
  have c4 := blk_cell B 4 hC.c4
  have c5 := blk_cell B 5 hC.c5
  have c38 := blk_cell B 38 hC.c38
  have c39 := blk_cell B 39 hC.c39
  have c40 := blk_cell B 40 hC.c40
  simp only at c0 c1 c2 c3 c4 c5 c38 c39 c40
  clear hC B
  have _ := h0
  have _ := h1
  have _ := h2
  have _ := h3
  have _ := h4
  have _ := h5
  have _ := h6
  have _ := h8
  have _ := h9
  have _ := g1
  have _ := g2
  have _ := h10
  have e6 : (f != t) = true := by simp only [bne_iff_ne, ne_eq]; omega
  have e7 : (f != 0) = true := by simp only [bne_iff_ne, ne_eq]; omega
  have e8 : (f == 0) = false := by rw [beq_eq_false_iff_ne]; omega
  go_enter Try.func13, Try.ntmps13
  go_upto_region 1 with fail
  refine wp_region_list ?_
  have KW := K
  clear K
  refine wpList_hide (fun ops hO => ?_)
  have hj3 : (ops[3]?).bind (·.dst) = some 6 := by rw [hO]; rfl
  have hj8 : (ops[8]?).bind (·.dst) = some 11 := by rw [hO]; rfl
  have hj13 : (ops[13]?).bind (·.dst) = some 16 := by rw [hO]; rfl
  have hj18 : (ops[18]?).bind (·.dst) = some 21 := by rw [hO]; rfl
  have hj23 : (ops[23]?).bind (·.dst) = some 26 := by rw [hO]; rfl
  have hj28 : (ops[28]?).bind (·.dst) = some 31 := by rw [hO]; rfl
  have hj35 : (ops[35]?).bind (·.dst) = some 38 := by rw [hO]; rfl
  have hj39 : (ops[39]?).bind (·.dst) = some 42 := by rw [hO]; rfl
  have hj45 : (ops[45]?).bind (·.dst) = some 48 := by rw [hO]; rfl
  have hj50 : (ops[50]?).bind (·.dst) = some 53 := by rw [hO]; rfl
  have hj55 : (ops[55]?).bind (·.dst) = some 58 := by rw [hO]; rfl
  have hj60 : (ops[60]?).bind (·.dst) = some 63 := by rw [hO]; rfl
  have hj65 : (ops[65]?).bind (·.dst) = some 68 := by rw [hO]; rfl
  have hj71 : (ops[71]?).bind (·.dst) = some 74 := by rw [hO]; rfl
  have hj77 : (ops[77]?).bind (·.dst) = some 80 := by rw [hO]; rfl
  have hj83 : (ops[83]?).bind (·.dst) = some 86 := by rw [hO]; rfl
  clear hO
  repeat (refine wpList_val (fun K hK => ?_); have HK := shut hK; clear hK; (try simp only [Region.wanted, yielded, hj3, hj8, hj13, hj18, hj23, hj28, hj35, hj39, hj45, hj50, hj55, hj60, hj65, hj71, hj77, hj83, Option.bind_some]); go_simp; refine HK.out _ ?_; clear HK K)
  go_wp2_with fail
  all_goals go_ret
  all_goals exact ⟨rfl, KW⟩

set_option maxRecDepth 100000 in
set_option maxHeartbeats 4000000 in
theorem rmay_11a {w : World} {C : Array Value} {k f t c ep : Int} {nm hs : List UInt8} {hh : List (List UInt8)} {bl sg : List UInt8} {ao : Option Addr} {cap : Nat} (hC : MsgC C ⟨k, f, t, c, ep, nm, hs, hh, bl, sg⟩ ao cap)
    (h0 : 1 ≤ k) (h1 : k ≤ 8) (h2 : 0 ≤ f) (h3 : f ≤ 64) (h4 : 0 ≤ t) (h5 : t ≤ 64) (h6 : ¬ f = t) (h8 : 0 ≤ c) (h9 : c ≤ 63) (h10 : 0 ≤ ep) (g1 : f = 0) (h11 : ¬ ep ≤ 1099511627776) : Calls Try.prog 13 #[.agg C] w fun e w' => e = .returned (.bool false) ∧ Keeps Nothing w w' := by
  have B := blk_new w C 26
  have K := (Keeps.refl Nothing w).alloc (.cells C 26)
  have c0 := blk_cell B 0 hC.c0
  have c1 := blk_cell B 1 hC.c1
  have c2 := blk_cell B 2 hC.c2
  have c3 := blk_cell B 3 hC.c3
  have c4 := blk_cell B 4 hC.c4
  have c5 := blk_cell B 5 hC.c5
  have c38 := blk_cell B 38 hC.c38
  have c39 := blk_cell B 39 hC.c39
  have c40 := blk_cell B 40 hC.c40
  simp only at c0 c1 c2 c3 c4 c5 c38 c39 c40
  clear hC B
  have _ := h0
  have _ := h1
  have _ := h2
  have _ := h3
  have _ := h4
  have _ := h5
  have _ := h6
  have _ := h8
  have _ := h9
  have _ := h10
  have _ := g1
  have _ := h11
  have e6 : (f != t) = true := by simp only [bne_iff_ne, ne_eq]; omega
  have e7 : (0 != t) = true := by simp only [bne_iff_ne, ne_eq]; omega
  have e8 : (f == 0) = true := by rw [g1]; rfl
  go_enter Try.func13, Try.ntmps13
  go_upto_region 1 with fail
  refine wp_region_list ?_
  have KW := K
  clear K
  refine wpList_hide (fun ops hO => ?_)
  have hj3 : (ops[3]?).bind (·.dst) = some 6 := by rw [hO]; rfl
  have hj8 : (ops[8]?).bind (·.dst) = some 11 := by rw [hO]; rfl
  have hj13 : (ops[13]?).bind (·.dst) = some 16 := by rw [hO]; rfl
  have hj18 : (ops[18]?).bind (·.dst) = some 21 := by rw [hO]; rfl
  have hj23 : (ops[23]?).bind (·.dst) = some 26 := by rw [hO]; rfl
  have hj28 : (ops[28]?).bind (·.dst) = some 31 := by rw [hO]; rfl
  have hj35 : (ops[35]?).bind (·.dst) = some 38 := by rw [hO]; rfl
  have hj39 : (ops[39]?).bind (·.dst) = some 42 := by rw [hO]; rfl
  have hj45 : (ops[45]?).bind (·.dst) = some 48 := by rw [hO]; rfl
  have hj50 : (ops[50]?).bind (·.dst) = some 53 := by rw [hO]; rfl
  have hj55 : (ops[55]?).bind (·.dst) = some 58 := by rw [hO]; rfl
  have hj60 : (ops[60]?).bind (·.dst) = some 63 := by rw [hO]; rfl
  have hj65 : (ops[65]?).bind (·.dst) = some 68 := by rw [hO]; rfl
  have hj71 : (ops[71]?).bind (·.dst) = some 74 := by rw [hO]; rfl
  have hj77 : (ops[77]?).bind (·.dst) = some 80 := by rw [hO]; rfl
  have hj83 : (ops[83]?).bind (·.dst) = some 86 := by rw [hO]; rfl
  clear hO
  repeat (refine wpList_val (fun K hK => ?_); have HK := shut hK; clear hK; (try simp only [Region.wanted, yielded, hj3, hj8, hj13, hj18, hj23, hj28, hj35, hj39, hj45, hj50, hj55, hj60, hj65, hj71, hj77, hj83, Option.bind_some]); go_simp; refine HK.out _ ?_; clear HK K)
  go_wp2_with fail
  all_goals go_ret
  all_goals exact ⟨rfl, KW⟩

set_option maxRecDepth 100000 in
set_option maxHeartbeats 4000000 in
theorem rmay_11b {w : World} {C : Array Value} {k f t c ep : Int} {nm hs : List UInt8} {hh : List (List UInt8)} {bl sg : List UInt8} {ao : Option Addr} {cap : Nat} (hC : MsgC C ⟨k, f, t, c, ep, nm, hs, hh, bl, sg⟩ ao cap)
    (h0 : 1 ≤ k) (h1 : k ≤ 8) (h2 : 0 ≤ f) (h3 : f ≤ 64) (h4 : 0 ≤ t) (h5 : t ≤ 64) (h6 : ¬ f = t) (h8 : 0 ≤ c) (h9 : c ≤ 63) (h10 : 0 ≤ ep) (g1 : ¬ f = 0) (g2 : t = 0) (h11 : ¬ ep ≤ 1099511627776) : Calls Try.prog 13 #[.agg C] w fun e w' => e = .returned (.bool false) ∧ Keeps Nothing w w' := by
  have B := blk_new w C 26
  have K := (Keeps.refl Nothing w).alloc (.cells C 26)
  have c0 := blk_cell B 0 hC.c0
  have c1 := blk_cell B 1 hC.c1
  have c2 := blk_cell B 2 hC.c2
  have c3 := blk_cell B 3 hC.c3
  have c4 := blk_cell B 4 hC.c4
  have c5 := blk_cell B 5 hC.c5
  have c38 := blk_cell B 38 hC.c38
  have c39 := blk_cell B 39 hC.c39
  have c40 := blk_cell B 40 hC.c40
  simp only at c0 c1 c2 c3 c4 c5 c38 c39 c40
  clear hC B
  have _ := h0
  have _ := h1
  have _ := h2
  have _ := h3
  have _ := h4
  have _ := h5
  have _ := h6
  have _ := h8
  have _ := h9
  have _ := h10
  have _ := g1
  have _ := g2
  have _ := h11
  have e6 : (f != t) = true := by simp only [bne_iff_ne, ne_eq]; omega
  have e7 : (f != 0) = true := by simp only [bne_iff_ne, ne_eq]; omega
  have e8 : (f == 0) = false := by rw [beq_eq_false_iff_ne]; omega
  go_enter Try.func13, Try.ntmps13
  go_upto_region 1 with fail
  refine wp_region_list ?_
  have KW := K
  clear K
  refine wpList_hide (fun ops hO => ?_)
  have hj3 : (ops[3]?).bind (·.dst) = some 6 := by rw [hO]; rfl
  have hj8 : (ops[8]?).bind (·.dst) = some 11 := by rw [hO]; rfl
  have hj13 : (ops[13]?).bind (·.dst) = some 16 := by rw [hO]; rfl
  have hj18 : (ops[18]?).bind (·.dst) = some 21 := by rw [hO]; rfl
  have hj23 : (ops[23]?).bind (·.dst) = some 26 := by rw [hO]; rfl
  have hj28 : (ops[28]?).bind (·.dst) = some 31 := by rw [hO]; rfl
  have hj35 : (ops[35]?).bind (·.dst) = some 38 := by rw [hO]; rfl
  have hj39 : (ops[39]?).bind (·.dst) = some 42 := by rw [hO]; rfl
  have hj45 : (ops[45]?).bind (·.dst) = some 48 := by rw [hO]; rfl
  have hj50 : (ops[50]?).bind (·.dst) = some 53 := by rw [hO]; rfl
  have hj55 : (ops[55]?).bind (·.dst) = some 58 := by rw [hO]; rfl
  have hj60 : (ops[60]?).bind (·.dst) = some 63 := by rw [hO]; rfl
  have hj65 : (ops[65]?).bind (·.dst) = some 68 := by rw [hO]; rfl
  have hj71 : (ops[71]?).bind (·.dst) = some 74 := by rw [hO]; rfl
  have hj77 : (ops[77]?).bind (·.dst) = some 80 := by rw [hO]; rfl
  have hj83 : (ops[83]?).bind (·.dst) = some 86 := by rw [hO]; rfl
  clear hO
  repeat (refine wpList_val (fun K hK => ?_); have HK := shut hK; clear hK; (try simp only [Region.wanted, yielded, hj3, hj8, hj13, hj18, hj23, hj28, hj35, hj39, hj45, hj50, hj55, hj60, hj65, hj71, hj77, hj83, Option.bind_some]); go_simp; refine HK.out _ ?_; clear HK K)
  go_wp2_with fail
  all_goals go_ret
  all_goals exact ⟨rfl, KW⟩

set_option maxRecDepth 100000 in
set_option maxHeartbeats 4000000 in
theorem rmay_12a {w : World} {C : Array Value} {k f t c ep : Int} {nm hs : List UInt8} {hh : List (List UInt8)} {bl sg : List UInt8} {ao : Option Addr} {cap : Nat} (hC : MsgC C ⟨k, f, t, c, ep, nm, hs, hh, bl, sg⟩ ao cap)
    (h0 : 1 ≤ k) (h1 : k ≤ 8) (h2 : 0 ≤ f) (h3 : f ≤ 64) (h4 : 0 ≤ t) (h5 : t ≤ 64) (h6 : ¬ f = t) (h8 : 0 ≤ c) (h9 : c ≤ 63) (h10 : 0 ≤ ep) (h11 : ep ≤ 1099511627776) (g1 : f = 0) (h12 : ¬ (nm.length : Int) ≤ 32) : Calls Try.prog 13 #[.agg C] w fun e w' => e = .returned (.bool false) ∧ Keeps Nothing w w' := by
  have B := blk_new w C 26
  have K := (Keeps.refl Nothing w).alloc (.cells C 26)
  have c0 := blk_cell B 0 hC.c0
  have c1 := blk_cell B 1 hC.c1
  have c2 := blk_cell B 2 hC.c2
  have c3 := blk_cell B 3 hC.c3
  have c4 := blk_cell B 4 hC.c4
  have c5 := blk_cell B 5 hC.c5
  have c38 := blk_cell B 38 hC.c38
  have c39 := blk_cell B 39 hC.c39
  have c40 := blk_cell B 40 hC.c40
  simp only at c0 c1 c2 c3 c4 c5 c38 c39 c40
  clear hC B
  have _ := h0
  have _ := h1
  have _ := h2
  have _ := h3
  have _ := h4
  have _ := h5
  have _ := h6
  have _ := h8
  have _ := h9
  have _ := h10
  have _ := h11
  have _ := g1
  have _ := h12
  have e6 : (f != t) = true := by simp only [bne_iff_ne, ne_eq]; omega
  have e7 : (0 != t) = true := by simp only [bne_iff_ne, ne_eq]; omega
  have e8 : (f == 0) = true := by rw [g1]; rfl
  go_enter Try.func13, Try.ntmps13
  go_upto_region 1 with fail
  refine wp_region_list ?_
  have KW := K
  clear K
  refine wpList_hide (fun ops hO => ?_)
  have hj3 : (ops[3]?).bind (·.dst) = some 6 := by rw [hO]; rfl
  have hj8 : (ops[8]?).bind (·.dst) = some 11 := by rw [hO]; rfl
  have hj13 : (ops[13]?).bind (·.dst) = some 16 := by rw [hO]; rfl
  have hj18 : (ops[18]?).bind (·.dst) = some 21 := by rw [hO]; rfl
  have hj23 : (ops[23]?).bind (·.dst) = some 26 := by rw [hO]; rfl
  have hj28 : (ops[28]?).bind (·.dst) = some 31 := by rw [hO]; rfl
  have hj35 : (ops[35]?).bind (·.dst) = some 38 := by rw [hO]; rfl
  have hj39 : (ops[39]?).bind (·.dst) = some 42 := by rw [hO]; rfl
  have hj45 : (ops[45]?).bind (·.dst) = some 48 := by rw [hO]; rfl
  have hj50 : (ops[50]?).bind (·.dst) = some 53 := by rw [hO]; rfl
  have hj55 : (ops[55]?).bind (·.dst) = some 58 := by rw [hO]; rfl
  have hj60 : (ops[60]?).bind (·.dst) = some 63 := by rw [hO]; rfl
  have hj65 : (ops[65]?).bind (·.dst) = some 68 := by rw [hO]; rfl
  have hj71 : (ops[71]?).bind (·.dst) = some 74 := by rw [hO]; rfl
  have hj77 : (ops[77]?).bind (·.dst) = some 80 := by rw [hO]; rfl
  have hj83 : (ops[83]?).bind (·.dst) = some 86 := by rw [hO]; rfl
  clear hO
  repeat (refine wpList_val (fun K hK => ?_); have HK := shut hK; clear hK; (try simp only [Region.wanted, yielded, hj3, hj8, hj13, hj18, hj23, hj28, hj35, hj39, hj45, hj50, hj55, hj60, hj65, hj71, hj77, hj83, Option.bind_some]); go_simp; refine HK.out _ ?_; clear HK K)
  go_wp2_with fail
  all_goals go_ret
  all_goals exact ⟨rfl, KW⟩

set_option maxRecDepth 100000 in
set_option maxHeartbeats 4000000 in
theorem rmay_12b {w : World} {C : Array Value} {k f t c ep : Int} {nm hs : List UInt8} {hh : List (List UInt8)} {bl sg : List UInt8} {ao : Option Addr} {cap : Nat} (hC : MsgC C ⟨k, f, t, c, ep, nm, hs, hh, bl, sg⟩ ao cap)
    (h0 : 1 ≤ k) (h1 : k ≤ 8) (h2 : 0 ≤ f) (h3 : f ≤ 64) (h4 : 0 ≤ t) (h5 : t ≤ 64) (h6 : ¬ f = t) (h8 : 0 ≤ c) (h9 : c ≤ 63) (h10 : 0 ≤ ep) (h11 : ep ≤ 1099511627776) (g1 : ¬ f = 0) (g2 : t = 0) (h12 : ¬ (nm.length : Int) ≤ 32) : Calls Try.prog 13 #[.agg C] w fun e w' => e = .returned (.bool false) ∧ Keeps Nothing w w' := by
  have B := blk_new w C 26
  have K := (Keeps.refl Nothing w).alloc (.cells C 26)
  have c0 := blk_cell B 0 hC.c0
  have c1 := blk_cell B 1 hC.c1
  have c2 := blk_cell B 2 hC.c2
  have c3 := blk_cell B 3 hC.c3
  have c4 := blk_cell B 4 hC.c4
  have c5 := blk_cell B 5 hC.c5
  have c38 := blk_cell B 38 hC.c38
  have c39 := blk_cell B 39 hC.c39
  have c40 := blk_cell B 40 hC.c40
  simp only at c0 c1 c2 c3 c4 c5 c38 c39 c40
  clear hC B
  have _ := h0
  have _ := h1
  have _ := h2
  have _ := h3
  have _ := h4
  have _ := h5
  have _ := h6
  have _ := h8
  have _ := h9
  have _ := h10
  have _ := h11
  have _ := g1
  have _ := g2
  have _ := h12
  have e6 : (f != t) = true := by simp only [bne_iff_ne, ne_eq]; omega
  have e7 : (f != 0) = true := by simp only [bne_iff_ne, ne_eq]; omega
  have e8 : (f == 0) = false := by rw [beq_eq_false_iff_ne]; omega
  go_enter Try.func13, Try.ntmps13
  go_upto_region 1 with fail
  refine wp_region_list ?_
  have KW := K
  clear K
  refine wpList_hide (fun ops hO => ?_)
  have hj3 : (ops[3]?).bind (·.dst) = some 6 := by rw [hO]; rfl
  have hj8 : (ops[8]?).bind (·.dst) = some 11 := by rw [hO]; rfl
  have hj13 : (ops[13]?).bind (·.dst) = some 16 := by rw [hO]; rfl
  have hj18 : (ops[18]?).bind (·.dst) = some 21 := by rw [hO]; rfl
  have hj23 : (ops[23]?).bind (·.dst) = some 26 := by rw [hO]; rfl
  have hj28 : (ops[28]?).bind (·.dst) = some 31 := by rw [hO]; rfl
  have hj35 : (ops[35]?).bind (·.dst) = some 38 := by rw [hO]; rfl
  have hj39 : (ops[39]?).bind (·.dst) = some 42 := by rw [hO]; rfl
  have hj45 : (ops[45]?).bind (·.dst) = some 48 := by rw [hO]; rfl
  have hj50 : (ops[50]?).bind (·.dst) = some 53 := by rw [hO]; rfl
  have hj55 : (ops[55]?).bind (·.dst) = some 58 := by rw [hO]; rfl
  have hj60 : (ops[60]?).bind (·.dst) = some 63 := by rw [hO]; rfl
  have hj65 : (ops[65]?).bind (·.dst) = some 68 := by rw [hO]; rfl
  have hj71 : (ops[71]?).bind (·.dst) = some 74 := by rw [hO]; rfl
  have hj77 : (ops[77]?).bind (·.dst) = some 80 := by rw [hO]; rfl
  have hj83 : (ops[83]?).bind (·.dst) = some 86 := by rw [hO]; rfl
  clear hO
  repeat (refine wpList_val (fun K hK => ?_); have HK := shut hK; clear hK; (try simp only [Region.wanted, yielded, hj3, hj8, hj13, hj18, hj23, hj28, hj35, hj39, hj45, hj50, hj55, hj60, hj65, hj71, hj77, hj83, Option.bind_some]); go_simp; refine HK.out _ ?_; clear HK K)
  go_wp2_with fail
  all_goals go_ret
  all_goals exact ⟨rfl, KW⟩

set_option maxRecDepth 100000 in
set_option maxHeartbeats 4000000 in
theorem rmay_13a {w : World} {C : Array Value} {k f t c ep : Int} {nm hs : List UInt8} {hh : List (List UInt8)} {bl sg : List UInt8} {ao : Option Addr} {cap : Nat} (hC : MsgC C ⟨k, f, t, c, ep, nm, hs, hh, bl, sg⟩ ao cap)
    (h0 : 1 ≤ k) (h1 : k ≤ 8) (h2 : 0 ≤ f) (h3 : f ≤ 64) (h4 : 0 ≤ t) (h5 : t ≤ 64) (h6 : ¬ f = t) (h8 : 0 ≤ c) (h9 : c ≤ 63) (h10 : 0 ≤ ep) (h11 : ep ≤ 1099511627776) (h12 : (nm.length : Int) ≤ 32) (g1 : f = 0) (h13 : ¬ (hh.length : Int) ≤ 64) : Calls Try.prog 13 #[.agg C] w fun e w' => e = .returned (.bool false) ∧ Keeps Nothing w w' := by
  have B := blk_new w C 26
  have K := (Keeps.refl Nothing w).alloc (.cells C 26)
  have c0 := blk_cell B 0 hC.c0
  have c1 := blk_cell B 1 hC.c1
  have c2 := blk_cell B 2 hC.c2
  have c3 := blk_cell B 3 hC.c3
  have c4 := blk_cell B 4 hC.c4
  have c5 := blk_cell B 5 hC.c5
  have c38 := blk_cell B 38 hC.c38
  have c39 := blk_cell B 39 hC.c39
  have c40 := blk_cell B 40 hC.c40
  simp only at c0 c1 c2 c3 c4 c5 c38 c39 c40
  clear hC B
  have _ := h0
  have _ := h1
  have _ := h2
  have _ := h3
  have _ := h4
  have _ := h5
  have _ := h6
  have _ := h8
  have _ := h9
  have _ := h10
  have _ := h11
  have _ := h12
  have _ := g1
  have _ := h13
  have e6 : (f != t) = true := by simp only [bne_iff_ne, ne_eq]; omega
  have e7 : (0 != t) = true := by simp only [bne_iff_ne, ne_eq]; omega
  have e8 : (f == 0) = true := by rw [g1]; rfl
  go_enter Try.func13, Try.ntmps13
  go_upto_region 1 with fail
  refine wp_region_list ?_
  have KW := K
  clear K
  refine wpList_hide (fun ops hO => ?_)
  have hj3 : (ops[3]?).bind (·.dst) = some 6 := by rw [hO]; rfl
  have hj8 : (ops[8]?).bind (·.dst) = some 11 := by rw [hO]; rfl
  have hj13 : (ops[13]?).bind (·.dst) = some 16 := by rw [hO]; rfl
  have hj18 : (ops[18]?).bind (·.dst) = some 21 := by rw [hO]; rfl
  have hj23 : (ops[23]?).bind (·.dst) = some 26 := by rw [hO]; rfl
  have hj28 : (ops[28]?).bind (·.dst) = some 31 := by rw [hO]; rfl
  have hj35 : (ops[35]?).bind (·.dst) = some 38 := by rw [hO]; rfl
  have hj39 : (ops[39]?).bind (·.dst) = some 42 := by rw [hO]; rfl
  have hj45 : (ops[45]?).bind (·.dst) = some 48 := by rw [hO]; rfl
  have hj50 : (ops[50]?).bind (·.dst) = some 53 := by rw [hO]; rfl
  have hj55 : (ops[55]?).bind (·.dst) = some 58 := by rw [hO]; rfl
  have hj60 : (ops[60]?).bind (·.dst) = some 63 := by rw [hO]; rfl
  have hj65 : (ops[65]?).bind (·.dst) = some 68 := by rw [hO]; rfl
  have hj71 : (ops[71]?).bind (·.dst) = some 74 := by rw [hO]; rfl
  have hj77 : (ops[77]?).bind (·.dst) = some 80 := by rw [hO]; rfl
  have hj83 : (ops[83]?).bind (·.dst) = some 86 := by rw [hO]; rfl
  clear hO
  repeat (refine wpList_val (fun K hK => ?_); have HK := shut hK; clear hK; (try simp only [Region.wanted, yielded, hj3, hj8, hj13, hj18, hj23, hj28, hj35, hj39, hj45, hj50, hj55, hj60, hj65, hj71, hj77, hj83, Option.bind_some]); go_simp; refine HK.out _ ?_; clear HK K)
  go_wp2_with fail
  all_goals go_ret
  all_goals exact ⟨rfl, KW⟩

set_option maxRecDepth 100000 in
set_option maxHeartbeats 4000000 in
theorem rmay_13b {w : World} {C : Array Value} {k f t c ep : Int} {nm hs : List UInt8} {hh : List (List UInt8)} {bl sg : List UInt8} {ao : Option Addr} {cap : Nat} (hC : MsgC C ⟨k, f, t, c, ep, nm, hs, hh, bl, sg⟩ ao cap)
    (h0 : 1 ≤ k) (h1 : k ≤ 8) (h2 : 0 ≤ f) (h3 : f ≤ 64) (h4 : 0 ≤ t) (h5 : t ≤ 64) (h6 : ¬ f = t) (h8 : 0 ≤ c) (h9 : c ≤ 63) (h10 : 0 ≤ ep) (h11 : ep ≤ 1099511627776) (h12 : (nm.length : Int) ≤ 32) (g1 : ¬ f = 0) (g2 : t = 0) (h13 : ¬ (hh.length : Int) ≤ 64) : Calls Try.prog 13 #[.agg C] w fun e w' => e = .returned (.bool false) ∧ Keeps Nothing w w' := by
  have B := blk_new w C 26
  have K := (Keeps.refl Nothing w).alloc (.cells C 26)
  have c0 := blk_cell B 0 hC.c0
  have c1 := blk_cell B 1 hC.c1
  have c2 := blk_cell B 2 hC.c2
  have c3 := blk_cell B 3 hC.c3
  have c4 := blk_cell B 4 hC.c4
  have c5 := blk_cell B 5 hC.c5
  have c38 := blk_cell B 38 hC.c38
  have c39 := blk_cell B 39 hC.c39
  have c40 := blk_cell B 40 hC.c40
  simp only at c0 c1 c2 c3 c4 c5 c38 c39 c40
  clear hC B
  have _ := h0
  have _ := h1
  have _ := h2
  have _ := h3
  have _ := h4
  have _ := h5
  have _ := h6
  have _ := h8
  have _ := h9
  have _ := h10
  have _ := h11
  have _ := h12
  have _ := g1
  have _ := g2
  have _ := h13
  have e6 : (f != t) = true := by simp only [bne_iff_ne, ne_eq]; omega
  have e7 : (f != 0) = true := by simp only [bne_iff_ne, ne_eq]; omega
  have e8 : (f == 0) = false := by rw [beq_eq_false_iff_ne]; omega
  go_enter Try.func13, Try.ntmps13
  go_upto_region 1 with fail
  refine wp_region_list ?_
  have KW := K
  clear K
  refine wpList_hide (fun ops hO => ?_)
  have hj3 : (ops[3]?).bind (·.dst) = some 6 := by rw [hO]; rfl
  have hj8 : (ops[8]?).bind (·.dst) = some 11 := by rw [hO]; rfl
  have hj13 : (ops[13]?).bind (·.dst) = some 16 := by rw [hO]; rfl
  have hj18 : (ops[18]?).bind (·.dst) = some 21 := by rw [hO]; rfl
  have hj23 : (ops[23]?).bind (·.dst) = some 26 := by rw [hO]; rfl
  have hj28 : (ops[28]?).bind (·.dst) = some 31 := by rw [hO]; rfl
  have hj35 : (ops[35]?).bind (·.dst) = some 38 := by rw [hO]; rfl
  have hj39 : (ops[39]?).bind (·.dst) = some 42 := by rw [hO]; rfl
  have hj45 : (ops[45]?).bind (·.dst) = some 48 := by rw [hO]; rfl
  have hj50 : (ops[50]?).bind (·.dst) = some 53 := by rw [hO]; rfl
  have hj55 : (ops[55]?).bind (·.dst) = some 58 := by rw [hO]; rfl
  have hj60 : (ops[60]?).bind (·.dst) = some 63 := by rw [hO]; rfl
  have hj65 : (ops[65]?).bind (·.dst) = some 68 := by rw [hO]; rfl
  have hj71 : (ops[71]?).bind (·.dst) = some 74 := by rw [hO]; rfl
  have hj77 : (ops[77]?).bind (·.dst) = some 80 := by rw [hO]; rfl
  have hj83 : (ops[83]?).bind (·.dst) = some 86 := by rw [hO]; rfl
  clear hO
  repeat (refine wpList_val (fun K hK => ?_); have HK := shut hK; clear hK; (try simp only [Region.wanted, yielded, hj3, hj8, hj13, hj18, hj23, hj28, hj35, hj39, hj45, hj50, hj55, hj60, hj65, hj71, hj77, hj83, Option.bind_some]); go_simp; refine HK.out _ ?_; clear HK K)
  go_wp2_with fail
  all_goals go_ret
  all_goals exact ⟨rfl, KW⟩

set_option maxRecDepth 100000 in
set_option maxHeartbeats 4000000 in
theorem rmay_14a {w : World} {C : Array Value} {k f t c ep : Int} {nm hs : List UInt8} {hh : List (List UInt8)} {bl sg : List UInt8} {ao : Option Addr} {cap : Nat} (hC : MsgC C ⟨k, f, t, c, ep, nm, hs, hh, bl, sg⟩ ao cap)
    (h0 : 1 ≤ k) (h1 : k ≤ 8) (h2 : 0 ≤ f) (h3 : f ≤ 64) (h4 : 0 ≤ t) (h5 : t ≤ 64) (h6 : ¬ f = t) (h8 : 0 ≤ c) (h9 : c ≤ 63) (h10 : 0 ≤ ep) (h11 : ep ≤ 1099511627776) (h12 : (nm.length : Int) ≤ 32) (h13 : (hh.length : Int) ≤ 64) (g1 : f = 0) (h14 : ¬ (bl.length : Int) ≤ 4194304) : Calls Try.prog 13 #[.agg C] w fun e w' => e = .returned (.bool false) ∧ Keeps Nothing w w' := by
  have B := blk_new w C 26
  have K := (Keeps.refl Nothing w).alloc (.cells C 26)
  have c0 := blk_cell B 0 hC.c0
  have c1 := blk_cell B 1 hC.c1
  have c2 := blk_cell B 2 hC.c2
  have c3 := blk_cell B 3 hC.c3
  have c4 := blk_cell B 4 hC.c4
  have c5 := blk_cell B 5 hC.c5
  have c38 := blk_cell B 38 hC.c38
  have c39 := blk_cell B 39 hC.c39
  have c40 := blk_cell B 40 hC.c40
  simp only at c0 c1 c2 c3 c4 c5 c38 c39 c40
  clear hC B
  have _ := h0
  have _ := h1
  have _ := h2
  have _ := h3
  have _ := h4
  have _ := h5
  have _ := h6
  have _ := h8
  have _ := h9
  have _ := h10
  have _ := h11
  have _ := h12
  have _ := h13
  have _ := g1
  have _ := h14
  have e6 : (f != t) = true := by simp only [bne_iff_ne, ne_eq]; omega
  have e7 : (0 != t) = true := by simp only [bne_iff_ne, ne_eq]; omega
  have e8 : (f == 0) = true := by rw [g1]; rfl
  go_enter Try.func13, Try.ntmps13
  go_upto_region 1 with fail
  refine wp_region_list ?_
  have KW := K
  clear K
  refine wpList_hide (fun ops hO => ?_)
  have hj3 : (ops[3]?).bind (·.dst) = some 6 := by rw [hO]; rfl
  have hj8 : (ops[8]?).bind (·.dst) = some 11 := by rw [hO]; rfl
  have hj13 : (ops[13]?).bind (·.dst) = some 16 := by rw [hO]; rfl
  have hj18 : (ops[18]?).bind (·.dst) = some 21 := by rw [hO]; rfl
  have hj23 : (ops[23]?).bind (·.dst) = some 26 := by rw [hO]; rfl
  have hj28 : (ops[28]?).bind (·.dst) = some 31 := by rw [hO]; rfl
  have hj35 : (ops[35]?).bind (·.dst) = some 38 := by rw [hO]; rfl
  have hj39 : (ops[39]?).bind (·.dst) = some 42 := by rw [hO]; rfl
  have hj45 : (ops[45]?).bind (·.dst) = some 48 := by rw [hO]; rfl
  have hj50 : (ops[50]?).bind (·.dst) = some 53 := by rw [hO]; rfl
  have hj55 : (ops[55]?).bind (·.dst) = some 58 := by rw [hO]; rfl
  have hj60 : (ops[60]?).bind (·.dst) = some 63 := by rw [hO]; rfl
  have hj65 : (ops[65]?).bind (·.dst) = some 68 := by rw [hO]; rfl
  have hj71 : (ops[71]?).bind (·.dst) = some 74 := by rw [hO]; rfl
  have hj77 : (ops[77]?).bind (·.dst) = some 80 := by rw [hO]; rfl
  have hj83 : (ops[83]?).bind (·.dst) = some 86 := by rw [hO]; rfl
  clear hO
  repeat (refine wpList_val (fun K hK => ?_); have HK := shut hK; clear hK; (try simp only [Region.wanted, yielded, hj3, hj8, hj13, hj18, hj23, hj28, hj35, hj39, hj45, hj50, hj55, hj60, hj65, hj71, hj77, hj83, Option.bind_some]); go_simp; refine HK.out _ ?_; clear HK K)
  go_wp2_with fail
  all_goals go_ret
  all_goals exact ⟨rfl, KW⟩

set_option maxRecDepth 100000 in
set_option maxHeartbeats 4000000 in
theorem rmay_14b {w : World} {C : Array Value} {k f t c ep : Int} {nm hs : List UInt8} {hh : List (List UInt8)} {bl sg : List UInt8} {ao : Option Addr} {cap : Nat} (hC : MsgC C ⟨k, f, t, c, ep, nm, hs, hh, bl, sg⟩ ao cap)
    (h0 : 1 ≤ k) (h1 : k ≤ 8) (h2 : 0 ≤ f) (h3 : f ≤ 64) (h4 : 0 ≤ t) (h5 : t ≤ 64) (h6 : ¬ f = t) (h8 : 0 ≤ c) (h9 : c ≤ 63) (h10 : 0 ≤ ep) (h11 : ep ≤ 1099511627776) (h12 : (nm.length : Int) ≤ 32) (h13 : (hh.length : Int) ≤ 64) (g1 : ¬ f = 0) (g2 : t = 0) (h14 : ¬ (bl.length : Int) ≤ 4194304) : Calls Try.prog 13 #[.agg C] w fun e w' => e = .returned (.bool false) ∧ Keeps Nothing w w' := by
  have B := blk_new w C 26
  have K := (Keeps.refl Nothing w).alloc (.cells C 26)
  have c0 := blk_cell B 0 hC.c0
  have c1 := blk_cell B 1 hC.c1
  have c2 := blk_cell B 2 hC.c2
  have c3 := blk_cell B 3 hC.c3
  have c4 := blk_cell B 4 hC.c4
  have c5 := blk_cell B 5 hC.c5
  have c38 := blk_cell B 38 hC.c38
  have c39 := blk_cell B 39 hC.c39
  have c40 := blk_cell B 40 hC.c40
  simp only at c0 c1 c2 c3 c4 c5 c38 c39 c40
  clear hC B
  have _ := h0
  have _ := h1
  have _ := h2
  have _ := h3
  have _ := h4
  have _ := h5
  have _ := h6
  have _ := h8
  have _ := h9
  have _ := h10
  have _ := h11
  have _ := h12
  have _ := h13
  have _ := g1
  have _ := g2
  have _ := h14
  have e6 : (f != t) = true := by simp only [bne_iff_ne, ne_eq]; omega
  have e7 : (f != 0) = true := by simp only [bne_iff_ne, ne_eq]; omega
  have e8 : (f == 0) = false := by rw [beq_eq_false_iff_ne]; omega
  go_enter Try.func13, Try.ntmps13
  go_upto_region 1 with fail
  refine wp_region_list ?_
  have KW := K
  clear K
  refine wpList_hide (fun ops hO => ?_)
  have hj3 : (ops[3]?).bind (·.dst) = some 6 := by rw [hO]; rfl
  have hj8 : (ops[8]?).bind (·.dst) = some 11 := by rw [hO]; rfl
  have hj13 : (ops[13]?).bind (·.dst) = some 16 := by rw [hO]; rfl
  have hj18 : (ops[18]?).bind (·.dst) = some 21 := by rw [hO]; rfl
  have hj23 : (ops[23]?).bind (·.dst) = some 26 := by rw [hO]; rfl
  have hj28 : (ops[28]?).bind (·.dst) = some 31 := by rw [hO]; rfl
  have hj35 : (ops[35]?).bind (·.dst) = some 38 := by rw [hO]; rfl
  have hj39 : (ops[39]?).bind (·.dst) = some 42 := by rw [hO]; rfl
  have hj45 : (ops[45]?).bind (·.dst) = some 48 := by rw [hO]; rfl
  have hj50 : (ops[50]?).bind (·.dst) = some 53 := by rw [hO]; rfl
  have hj55 : (ops[55]?).bind (·.dst) = some 58 := by rw [hO]; rfl
  have hj60 : (ops[60]?).bind (·.dst) = some 63 := by rw [hO]; rfl
  have hj65 : (ops[65]?).bind (·.dst) = some 68 := by rw [hO]; rfl
  have hj71 : (ops[71]?).bind (·.dst) = some 74 := by rw [hO]; rfl
  have hj77 : (ops[77]?).bind (·.dst) = some 80 := by rw [hO]; rfl
  have hj83 : (ops[83]?).bind (·.dst) = some 86 := by rw [hO]; rfl
  clear hO
  repeat (refine wpList_val (fun K hK => ?_); have HK := shut hK; clear hK; (try simp only [Region.wanted, yielded, hj3, hj8, hj13, hj18, hj23, hj28, hj35, hj39, hj45, hj50, hj55, hj60, hj65, hj71, hj77, hj83, Option.bind_some]); go_simp; refine HK.out _ ?_; clear HK K)
  go_wp2_with fail
  all_goals go_ret
  all_goals exact ⟨rfl, KW⟩

set_option maxRecDepth 100000 in
set_option maxHeartbeats 4000000 in
theorem rmay_15a {w : World} {C : Array Value} {k f t c ep : Int} {nm hs : List UInt8} {hh : List (List UInt8)} {bl sg : List UInt8} {ao : Option Addr} {cap : Nat} (hC : MsgC C ⟨k, f, t, c, ep, nm, hs, hh, bl, sg⟩ ao cap)
    (h0 : 1 ≤ k) (h1 : k ≤ 8) (h2 : 0 ≤ f) (h3 : f ≤ 64) (h4 : 0 ≤ t) (h5 : t ≤ 64) (h6 : ¬ f = t) (h8 : 0 ≤ c) (h9 : c ≤ 63) (h10 : 0 ≤ ep) (h11 : ep ≤ 1099511627776) (h12 : (nm.length : Int) ≤ 32) (h13 : (hh.length : Int) ≤ 64) (h14 : (bl.length : Int) ≤ 4194304) (g1 : f = 0) : Calls Try.prog 13 #[.agg C] w fun e w' => e = .returned (.bool (decide ((sg.length : Int) ≤ 4194304))) ∧ Keeps Nothing w w' := by
  have B := blk_new w C 26
  have K := (Keeps.refl Nothing w).alloc (.cells C 26)
  have c0 := blk_cell B 0 hC.c0
  have c1 := blk_cell B 1 hC.c1
  have c2 := blk_cell B 2 hC.c2
  have c3 := blk_cell B 3 hC.c3
  have c4 := blk_cell B 4 hC.c4
  have c5 := blk_cell B 5 hC.c5
  have c38 := blk_cell B 38 hC.c38
  have c39 := blk_cell B 39 hC.c39
  have c40 := blk_cell B 40 hC.c40
  simp only at c0 c1 c2 c3 c4 c5 c38 c39 c40
  clear hC B
  have _ := h0
  have _ := h1
  have _ := h2
  have _ := h3
  have _ := h4
  have _ := h5
  have _ := h6
  have _ := h8
  have _ := h9
  have _ := h10
  have _ := h11
  have _ := h12
  have _ := h13
  have _ := h14
  have _ := g1
  have e6 : (f != t) = true := by simp only [bne_iff_ne, ne_eq]; omega
  have e7 : (0 != t) = true := by simp only [bne_iff_ne, ne_eq]; omega
  have e8 : (f == 0) = true := by rw [g1]; rfl
  go_enter Try.func13, Try.ntmps13
  go_upto_region 1 with fail
  refine wp_region_list ?_
  have KW := K
  clear K
  refine wpList_hide (fun ops hO => ?_)
  have hj3 : (ops[3]?).bind (·.dst) = some 6 := by rw [hO]; rfl
  have hj8 : (ops[8]?).bind (·.dst) = some 11 := by rw [hO]; rfl
  have hj13 : (ops[13]?).bind (·.dst) = some 16 := by rw [hO]; rfl
  have hj18 : (ops[18]?).bind (·.dst) = some 21 := by rw [hO]; rfl
  have hj23 : (ops[23]?).bind (·.dst) = some 26 := by rw [hO]; rfl
  have hj28 : (ops[28]?).bind (·.dst) = some 31 := by rw [hO]; rfl
  have hj35 : (ops[35]?).bind (·.dst) = some 38 := by rw [hO]; rfl
  have hj39 : (ops[39]?).bind (·.dst) = some 42 := by rw [hO]; rfl
  have hj45 : (ops[45]?).bind (·.dst) = some 48 := by rw [hO]; rfl
  have hj50 : (ops[50]?).bind (·.dst) = some 53 := by rw [hO]; rfl
  have hj55 : (ops[55]?).bind (·.dst) = some 58 := by rw [hO]; rfl
  have hj60 : (ops[60]?).bind (·.dst) = some 63 := by rw [hO]; rfl
  have hj65 : (ops[65]?).bind (·.dst) = some 68 := by rw [hO]; rfl
  have hj71 : (ops[71]?).bind (·.dst) = some 74 := by rw [hO]; rfl
  have hj77 : (ops[77]?).bind (·.dst) = some 80 := by rw [hO]; rfl
  have hj83 : (ops[83]?).bind (·.dst) = some 86 := by rw [hO]; rfl
  clear hO
  repeat (refine wpList_val (fun K hK => ?_); have HK := shut hK; clear hK; (try simp only [Region.wanted, yielded, hj3, hj8, hj13, hj18, hj23, hj28, hj35, hj39, hj45, hj50, hj55, hj60, hj65, hj71, hj77, hj83, Option.bind_some]); go_simp; refine HK.out _ ?_; clear HK K)
  go_wp2_with fail
  all_goals go_ret
  all_goals exact ⟨rfl, KW⟩

set_option maxRecDepth 100000 in
set_option maxHeartbeats 4000000 in
theorem rmay_15b {w : World} {C : Array Value} {k f t c ep : Int} {nm hs : List UInt8} {hh : List (List UInt8)} {bl sg : List UInt8} {ao : Option Addr} {cap : Nat} (hC : MsgC C ⟨k, f, t, c, ep, nm, hs, hh, bl, sg⟩ ao cap)
    (h0 : 1 ≤ k) (h1 : k ≤ 8) (h2 : 0 ≤ f) (h3 : f ≤ 64) (h4 : 0 ≤ t) (h5 : t ≤ 64) (h6 : ¬ f = t) (h8 : 0 ≤ c) (h9 : c ≤ 63) (h10 : 0 ≤ ep) (h11 : ep ≤ 1099511627776) (h12 : (nm.length : Int) ≤ 32) (h13 : (hh.length : Int) ≤ 64) (h14 : (bl.length : Int) ≤ 4194304) (g1 : ¬ f = 0) (g2 : t = 0) : Calls Try.prog 13 #[.agg C] w fun e w' => e = .returned (.bool (decide ((sg.length : Int) ≤ 4194304))) ∧ Keeps Nothing w w' := by
  have B := blk_new w C 26
  have K := (Keeps.refl Nothing w).alloc (.cells C 26)
  have c0 := blk_cell B 0 hC.c0
  have c1 := blk_cell B 1 hC.c1
  have c2 := blk_cell B 2 hC.c2
  have c3 := blk_cell B 3 hC.c3
  have c4 := blk_cell B 4 hC.c4
  have c5 := blk_cell B 5 hC.c5
  have c38 := blk_cell B 38 hC.c38
  have c39 := blk_cell B 39 hC.c39
  have c40 := blk_cell B 40 hC.c40
  simp only at c0 c1 c2 c3 c4 c5 c38 c39 c40
  clear hC B
  have _ := h0
  have _ := h1
  have _ := h2
  have _ := h3
  have _ := h4
  have _ := h5
  have _ := h6
  have _ := h8
  have _ := h9
  have _ := h10
  have _ := h11
  have _ := h12
  have _ := h13
  have _ := h14
  have _ := g1
  have _ := g2
  have e6 : (f != t) = true := by simp only [bne_iff_ne, ne_eq]; omega
  have e7 : (f != 0) = true := by simp only [bne_iff_ne, ne_eq]; omega
  have e8 : (f == 0) = false := by rw [beq_eq_false_iff_ne]; omega
  go_enter Try.func13, Try.ntmps13
  go_upto_region 1 with fail
  refine wp_region_list ?_
  have KW := K
  clear K
  refine wpList_hide (fun ops hO => ?_)
  have hj3 : (ops[3]?).bind (·.dst) = some 6 := by rw [hO]; rfl
  have hj8 : (ops[8]?).bind (·.dst) = some 11 := by rw [hO]; rfl
  have hj13 : (ops[13]?).bind (·.dst) = some 16 := by rw [hO]; rfl
  have hj18 : (ops[18]?).bind (·.dst) = some 21 := by rw [hO]; rfl
  have hj23 : (ops[23]?).bind (·.dst) = some 26 := by rw [hO]; rfl
  have hj28 : (ops[28]?).bind (·.dst) = some 31 := by rw [hO]; rfl
  have hj35 : (ops[35]?).bind (·.dst) = some 38 := by rw [hO]; rfl
  have hj39 : (ops[39]?).bind (·.dst) = some 42 := by rw [hO]; rfl
  have hj45 : (ops[45]?).bind (·.dst) = some 48 := by rw [hO]; rfl
  have hj50 : (ops[50]?).bind (·.dst) = some 53 := by rw [hO]; rfl
  have hj55 : (ops[55]?).bind (·.dst) = some 58 := by rw [hO]; rfl
  have hj60 : (ops[60]?).bind (·.dst) = some 63 := by rw [hO]; rfl
  have hj65 : (ops[65]?).bind (·.dst) = some 68 := by rw [hO]; rfl
  have hj71 : (ops[71]?).bind (·.dst) = some 74 := by rw [hO]; rfl
  have hj77 : (ops[77]?).bind (·.dst) = some 80 := by rw [hO]; rfl
  have hj83 : (ops[83]?).bind (·.dst) = some 86 := by rw [hO]; rfl
  clear hO
  repeat (refine wpList_val (fun K hK => ?_); have HK := shut hK; clear hK; (try simp only [Region.wanted, yielded, hj3, hj8, hj13, hj18, hj23, hj28, hj35, hj39, hj45, hj50, hj55, hj60, hj65, hj71, hj77, hj83, Option.bind_some]); go_simp; refine HK.out _ ?_; clear HK K)
  go_wp2_with fail
  all_goals go_ret
  all_goals exact ⟨rfl, KW⟩

theorem rmay_any {C : Array Value} {m : MsgT} {ao : Option Addr} {cap : Nat} (hC : MsgC C m ao cap) : RMay m C := by
  obtain ⟨k, f, t, c, ep, nm, hs, hh, bl, sg⟩ := m
  intro W
  by_cases h0 : 1 ≤ k
  rotate_left
  · exact (rmay_0 hC h0).mono fun _ _ ⟨he, hk⟩ => ⟨by rw [he, decide_eq_false (by unfold mayP; simp only; omega)], hk⟩
  by_cases h1 : k ≤ 8
  rotate_left
  · exact (rmay_1 hC h0 h1).mono fun _ _ ⟨he, hk⟩ => ⟨by rw [he, decide_eq_false (by unfold mayP; simp only; omega)], hk⟩
  by_cases h2 : 0 ≤ f
  rotate_left
  · exact (rmay_2 hC h0 h1 h2).mono fun _ _ ⟨he, hk⟩ => ⟨by rw [he, decide_eq_false (by unfold mayP; simp only; omega)], hk⟩
  by_cases h3 : f ≤ 64
  rotate_left
  · exact (rmay_3 hC h0 h1 h2 h3).mono fun _ _ ⟨he, hk⟩ => ⟨by rw [he, decide_eq_false (by unfold mayP; simp only; omega)], hk⟩
  by_cases h4 : 0 ≤ t
  rotate_left
  · exact (rmay_4 hC h0 h1 h2 h3 h4).mono fun _ _ ⟨he, hk⟩ => ⟨by rw [he, decide_eq_false (by unfold mayP; simp only; omega)], hk⟩
  by_cases h5 : t ≤ 64
  rotate_left
  · exact (rmay_5 hC h0 h1 h2 h3 h4 h5).mono fun _ _ ⟨he, hk⟩ => ⟨by rw [he, decide_eq_false (by unfold mayP; simp only; omega)], hk⟩
  by_cases h6 : ¬ f = t
  rotate_left
  · exact (rmay_6 hC h0 h1 h2 h3 h4 h5 (by omega)).mono fun _ _ ⟨he, hk⟩ => ⟨by rw [he, decide_eq_false (by unfold mayP; simp only; omega)], hk⟩
  by_cases g1 : f = 0
  · skip
    by_cases h8 : 0 ≤ c
    rotate_left
    · exact (rmay_8a hC h0 h1 h2 h3 h4 h5 h6 g1 h8).mono fun _ _ ⟨he, hk⟩ => ⟨by rw [he, decide_eq_false (by unfold mayP; simp only; omega)], hk⟩
    by_cases h9 : c ≤ 63
    rotate_left
    · exact (rmay_9a hC h0 h1 h2 h3 h4 h5 h6 h8 g1 h9).mono fun _ _ ⟨he, hk⟩ => ⟨by rw [he, decide_eq_false (by unfold mayP; simp only; omega)], hk⟩
    by_cases h10 : 0 ≤ ep
    rotate_left
    · exact (rmay_10a hC h0 h1 h2 h3 h4 h5 h6 h8 h9 g1 h10).mono fun _ _ ⟨he, hk⟩ => ⟨by rw [he, decide_eq_false (by unfold mayP; simp only; omega)], hk⟩
    by_cases h11 : ep ≤ 1099511627776
    rotate_left
    · exact (rmay_11a hC h0 h1 h2 h3 h4 h5 h6 h8 h9 h10 g1 h11).mono fun _ _ ⟨he, hk⟩ => ⟨by rw [he, decide_eq_false (by unfold mayP; simp only; omega)], hk⟩
    by_cases h12 : (nm.length : Int) ≤ 32
    rotate_left
    · exact (rmay_12a hC h0 h1 h2 h3 h4 h5 h6 h8 h9 h10 h11 g1 h12).mono fun _ _ ⟨he, hk⟩ => ⟨by rw [he, decide_eq_false (by unfold mayP; simp only; omega)], hk⟩
    by_cases h13 : (hh.length : Int) ≤ 64
    rotate_left
    · exact (rmay_13a hC h0 h1 h2 h3 h4 h5 h6 h8 h9 h10 h11 h12 g1 h13).mono fun _ _ ⟨he, hk⟩ => ⟨by rw [he, decide_eq_false (by unfold mayP; simp only; omega)], hk⟩
    by_cases h14 : (bl.length : Int) ≤ 4194304
    rotate_left
    · exact (rmay_14a hC h0 h1 h2 h3 h4 h5 h6 h8 h9 h10 h11 h12 h13 g1 h14).mono fun _ _ ⟨he, hk⟩ => ⟨by rw [he, decide_eq_false (by unfold mayP; simp only; omega)], hk⟩
    exact (rmay_15a hC h0 h1 h2 h3 h4 h5 h6 h8 h9 h10 h11 h12 h13 h14 g1).mono fun _ _ ⟨he, hk⟩ => ⟨by rw [he]; refine congrArg (fun b => Ending.returned (.bool b)) ?_; rw [decide_eq_decide]; unfold mayP; simp only; omega, hk⟩
  · by_cases g2 : t = 0
    rotate_left
    · exact (rmay_7 hC h0 h1 h2 h3 h4 h5 h6 g1 g2).mono fun _ _ ⟨he, hk⟩ => ⟨by rw [he, decide_eq_false (by unfold mayP; simp only; omega)], hk⟩
    by_cases h8 : 0 ≤ c
    rotate_left
    · exact (rmay_8b hC h0 h1 h2 h3 h4 h5 h6 g1 g2 h8).mono fun _ _ ⟨he, hk⟩ => ⟨by rw [he, decide_eq_false (by unfold mayP; simp only; omega)], hk⟩
    by_cases h9 : c ≤ 63
    rotate_left
    · exact (rmay_9b hC h0 h1 h2 h3 h4 h5 h6 h8 g1 g2 h9).mono fun _ _ ⟨he, hk⟩ => ⟨by rw [he, decide_eq_false (by unfold mayP; simp only; omega)], hk⟩
    by_cases h10 : 0 ≤ ep
    rotate_left
    · exact (rmay_10b hC h0 h1 h2 h3 h4 h5 h6 h8 h9 g1 g2 h10).mono fun _ _ ⟨he, hk⟩ => ⟨by rw [he, decide_eq_false (by unfold mayP; simp only; omega)], hk⟩
    by_cases h11 : ep ≤ 1099511627776
    rotate_left
    · exact (rmay_11b hC h0 h1 h2 h3 h4 h5 h6 h8 h9 h10 g1 g2 h11).mono fun _ _ ⟨he, hk⟩ => ⟨by rw [he, decide_eq_false (by unfold mayP; simp only; omega)], hk⟩
    by_cases h12 : (nm.length : Int) ≤ 32
    rotate_left
    · exact (rmay_12b hC h0 h1 h2 h3 h4 h5 h6 h8 h9 h10 h11 g1 g2 h12).mono fun _ _ ⟨he, hk⟩ => ⟨by rw [he, decide_eq_false (by unfold mayP; simp only; omega)], hk⟩
    by_cases h13 : (hh.length : Int) ≤ 64
    rotate_left
    · exact (rmay_13b hC h0 h1 h2 h3 h4 h5 h6 h8 h9 h10 h11 h12 g1 g2 h13).mono fun _ _ ⟨he, hk⟩ => ⟨by rw [he, decide_eq_false (by unfold mayP; simp only; omega)], hk⟩
    by_cases h14 : (bl.length : Int) ≤ 4194304
    rotate_left
    · exact (rmay_14b hC h0 h1 h2 h3 h4 h5 h6 h8 h9 h10 h11 h12 h13 g1 g2 h14).mono fun _ _ ⟨he, hk⟩ => ⟨by rw [he, decide_eq_false (by unfold mayP; simp only; omega)], hk⟩
    exact (rmay_15b hC h0 h1 h2 h3 h4 h5 h6 h8 h9 h10 h11 h12 h13 h14 g1 g2).mono fun _ _ ⟨he, hk⟩ => ⟨by rw [he]; refine congrArg (fun b => Ending.returned (.bool b)) ?_; rw [decide_eq_decide]; unfold mayP; simp only; omega, hk⟩

end Go.Proofs.Yteifmkfkekglpaa
