/- usufructlaw5.MerkleRoots: for any leaves and any place the law returns true; no condition. -/
import Derived.Test.YtdmfomjgmmkaeaaRows
import Derived.Test.YtdmfomjgmmkaeaaMerk20
import Derived.ProofKit
import Derived.OpenShut
import Derived.ShutString
import Derived.ChangeOld
import Derived.Below
namespace Go.Proofs.Ytdmfomjgmmkaeaa.merkleRoots
open Go.ChangeShapes Go.WideShapes Go.ChangeAt Go.RowKit
open Go.ChangeMaps (open_string shut_string)

theorem own : ownKnob Try.prog.godebug = none := by kernel_rfl
theorem laidOut : laidOutB Try.prog = true := by kernel_rfl


attribute [local go_sem ↓] exec_mid_hash exec_load_hash exec_store_hash exec_store_proof
attribute [local go_sem] rowOk_new World.setRow_alloc_new aggOk_proof

set_option maxRecDepth 100000 in
set_option maxHeartbeats 4000000 in
theorem walk (w : World) {ao : Option Addr} {n c : Nat} {rows : List (List UInt8)} (hn : rows.length = n) (hc : n ≤ c) (hcm : c ≤ maxLen) (hR : RowsAt w ao rows) (i : Int) :
    Calls Try.prog 7 #[.slice ao n c, .int .i64 i] w (SaysTrue w) := by
  go_enter Try.func7, Try.ntmps7
  go_wp2_with fail
  refine (few_any (c := c) hn hR).mono ?_
  rintro e w1 ⟨r, rfl, hr, K1⟩
  cases r
  · go_wp2_with fail
    refine (told5_any _).mono ?_
    rintro e w2 ⟨rfl, k2⟩
    go_wp2_with fail
    go_ret
    exact ⟨rfl, K1.trans k2 (fun _ h _ => h)⟩
  · obtain ⟨hr1, hr2⟩ := hr rfl
    rw [hn] at hr1
    clear hr
    have hb : ∀ r ∈ rows, r.length ≤ 1000 := fun r hr => by have := hr2 r hr; omega
    obtain ⟨RT, hRT⟩ : ∃ RT, RT = ((rootL rows).map byteV).toArray := ⟨_, rfl⟩
    have hrl : (rootL rows).length = 32 := by unfold rootL; split <;> exact sha_len _
    have heq : ∀ V, (Op.equalIn 10000 25 (.agg RT) (.agg RT)).run Try.prog V = .ok true V := fun V => by
      rw [hRT, eql_hash_run _ _ hrl hrl V]; simp
    have hro := fun V (K : Keeps Nothing w V) => root_any (w := V) (c := c) hn (by omega) hc hcm (hR.keepsN K) hb
    have hrr := fun V (K : Keeps Nothing w V) => rroot_any (w := V) (c := c) hn (by omega) hc hcm (hR.keepsN K) hb
    rw [show hashV (rootL rows) = .agg RT from by rw [hRT]; rfl] at hro hrr
    have hpv := fun V (K : Keeps Nothing w V) => prove_any (w := V) (c := c) hn (by omega) hc hcm (hR.keepsN K) hb i
    clear hRT hrl
    go_wp2_with fail
    refine (hro _ K1).mono ?_
    rintro e w2 ⟨rfl, k2⟩
    have K2 := K1.trans k2 (fun _ h _ => h)
    clear K1 k2
    go_wp2_with fail
    refine (hrr _ K2).mono ?_
    rintro e w3 ⟨rfl, k3⟩
    have K3 := K2.trans k3 (fun _ h _ => h)
    clear K2 k3
    go_wp2_with fail
    refine (hpv _ K3).mono ?_
    rintro e w4 ⟨hp1, hp2⟩
    by_cases hin : 0 ≤ i ∧ i < n
    · obtain ⟨k, rfl⟩ := Int.eq_ofNat_of_zero_le hin.1
      have m1 : ¬ (k : Int) < 0 := by omega
      have m2 : ¬ (n : Int) ≤ k := by omega
      obtain ⟨a4, c4, rfl, o4, k4, -⟩ := hp1 ⟨by omega, by rw [hn]; omega⟩
      rw [Int.toNat_natCast] at o4 ⊢
      rw [hn]
      have h32 := pathL_32 rows.length rows k (Nat.le_refl _)
      have hLn := pathL_len rows.length rows k (Nat.le_refl _)
      have hrp := fun V (K : Keeps Nothing w V) => rpath_any (w := V) (c := c) hn (by omega) hc hcm (hR.keepsN K) hb k (by omega)
      unfold PathPost at hrp
      obtain ⟨L, hL⟩ : ∃ L, (pathL rows k).length = L := ⟨_, rfl⟩
      obtain ⟨q1, q2⟩ := ownH_cap o4
      have P4 := ownH_at o4 h32
      generalize pathL rows k = path at *
      rw [hL] at q1 hLn ⊢
      simp only [hL] at hrp
      unfold proofV
      have K4 := K3.trans k4 (fun _ h _ => h)
      clear hp1 hp2 k4 o4 K3
      go_wp2_with fail
      have K5 := K4.alloc (.cells #[.int .i64 (k : Int), .int .i64 (n : Int), .slice a4 L c4] 46)
      have B5 := blk_new w4 #[.int .i64 (k : Int), .int .i64 (n : Int), .slice a4 L c4] 46
      have P5 := P4.keepsN ((Keeps.refl Nothing w4).alloc (.cells #[.int .i64 (k : Int), .int .i64 (n : Int), .slice a4 L c4] 46))
      clear K4 P4
      generalize w4.alloc (.cells #[.int .i64 (k : Int), .int .i64 (n : Int), .slice a4 L c4] 46) = w5 at *
      generalize w4.heap.size = g5 at *
      refine (hrp _ K5).mono ?_
      rintro e w6 ⟨a6, c6, rfl, o6, k6, -⟩
      obtain ⟨q3, q4⟩ := ownH_cap o6
      rw [hL] at q3
      have P6 := ownH_at o6 h32
      have K6 := K5.trans k6 (fun _ h _ => h)
      have B6 := k6.blk B5 (fun h => h)
      have Q6 := P5.keepsN k6
      clear o6 K5 k6 B5 P5 hrp
      go_wp2_with fail
      have K7 := K6.alloc (.cells #[.int .i64 (k : Int), .int .i64 (n : Int), .slice a6 L c6] 46)
      have k7 := (Keeps.refl Nothing w6).alloc (.cells #[.int .i64 (k : Int), .int .i64 (n : Int), .slice a6 L c6] 46)
      have C7 := blk_new w6 #[.int .i64 (k : Int), .int .i64 (n : Int), .slice a6 L c6] 46
      have B7 := k7.blk B6 (fun h => h)
      have P7 := P6.keepsN k7
      have Q7 := Q6.keepsN k7
      clear K6 k7 P6 Q6 B6
      generalize w6.alloc (.cells #[.int .i64 (k : Int), .int .i64 (n : Int), .slice a6 L c6] 46) = w7 at *
      generalize w6.heap.size = g7 at *
      refine (told5_any _).mono ?_
      rintro e w8 ⟨rfl, k8⟩
      have K8 := K7.trans k8 (fun _ h _ => h)
      have x0 := blk_cell (k8.blk B7 (fun h => h)) 0 rfl
      have x1 := blk_cell (k8.blk B7 (fun h => h)) 1 rfl
      have x2 := blk_cell (k8.blk B7 (fun h => h)) 2 rfl
      have y0 := blk_cell (k8.blk C7 (fun h => h)) 0 rfl
      have y1 := blk_cell (k8.blk C7 (fun h => h)) 1 rfl
      have y2 := blk_cell (k8.blk C7 (fun h => h)) 2 rfl
      have P8 := P7.keepsN k8
      have Q8 := Q7.keepsN k8
      clear K7 k8 P7 Q7 B7 C7
      go_wp2_with fail
      refine (rsame_true (k : Int) (n : Int) hL (by omega) q1 q2 q3 q4 Q8 P8).mono ?_
      rintro e w9 ⟨rfl, k9⟩
      go_wp2_with fail
      go_ret
      exact ⟨rfl, K8.trans k9 (fun _ h _ => h)⟩
    · obtain ⟨ev, rfl, hev, k4⟩ := hp2 (by rw [hn]; exact hin)
      have K4 := K3.trans k4 (fun _ h _ => h)
      rw [show proofV 0 0 none 0 0 = .agg #[.int .i64 0, .int .i64 0, .slice none 0 0] from rfl]
      have hin2 : (i < 0) ∨ (¬ i < 0 ∧ (n : Int) ≤ i) := by omega
      clear hp1 hp2 k4 K3 hin
      rcases hin2 with m1 | ⟨m1, m2⟩
      · go_wp2_with fail
        have K5 := K4.alloc (.cells #[.int .i64 0, .int .i64 0, .slice none 0 0] 46)
        have B5 := blk_new w4 #[.int .i64 0, .int .i64 0, .slice none 0 0] 46
        have hev5 := hev.keeps ((Keeps.refl Nothing w4).alloc (.cells #[.int .i64 0, .int .i64 0, .slice none 0 0] 46)) (fun _ h => h.elim)
        clear K4 hev
        generalize w4.alloc (.cells #[.int .i64 0, .int .i64 0, .slice none 0 0] 46) = w5 at *
        generalize w4.heap.size = g5 at *
        refine (told5_any _).mono ?_
        rintro e w6 ⟨rfl, k6⟩
        have K6 := K5.trans k6 (fun _ h _ => h)
        have B6 := k6.blk B5 (fun h => h)
        have hev6 := hev5.keeps k6 (fun _ h => h.elim)
        clear K5 k6 B5 hev5
        go_wp2_with fail
        refine (is_any hev6 2 0).mono ?_
        rintro e w7 ⟨rfl, n7, rfl⟩
        rw [show decide ((2 : Int) = 2 ∧ (0 : Int) = 0) = true from rfl]
        have K7 := K6.drewN n7
        have x0 := blk_cell B6 0 rfl
        have x1 := blk_cell B6 1 rfl
        have x2 := blk_cell B6 2 rfl
        clear hev6 B6
        go_wp2_with fail
        refine (rsame_true 0 0 (m := 0) (path := []) rfl (by decide) (Nat.le_refl _) (by decide) (Nat.le_refl _) (by decide) ⟨fun _ => rfl, fun a e => (by cases e)⟩ ⟨fun _ => rfl, fun a e => (by cases e)⟩).mono ?_
        rintro e w9 ⟨rfl, k9⟩
        go_wp2_with fail
        go_ret
        exact ⟨rfl, K7.trans k9 (fun _ h _ => h)⟩
      · go_wp2_with fail
        have K5 := K4.alloc (.cells #[.int .i64 0, .int .i64 0, .slice none 0 0] 46)
        have B5 := blk_new w4 #[.int .i64 0, .int .i64 0, .slice none 0 0] 46
        have hev5 := hev.keeps ((Keeps.refl Nothing w4).alloc (.cells #[.int .i64 0, .int .i64 0, .slice none 0 0] 46)) (fun _ h => h.elim)
        clear K4 hev
        generalize w4.alloc (.cells #[.int .i64 0, .int .i64 0, .slice none 0 0] 46) = w5 at *
        generalize w4.heap.size = g5 at *
        refine (told5_any _).mono ?_
        rintro e w6 ⟨rfl, k6⟩
        have K6 := K5.trans k6 (fun _ h _ => h)
        have B6 := k6.blk B5 (fun h => h)
        have hev6 := hev5.keeps k6 (fun _ h => h.elim)
        clear K5 k6 B5 hev5
        go_wp2_with fail
        refine (is_any hev6 2 0).mono ?_
        rintro e w7 ⟨rfl, n7, rfl⟩
        rw [show decide ((2 : Int) = 2 ∧ (0 : Int) = 0) = true from rfl]
        have K7 := K6.drewN n7
        have x0 := blk_cell B6 0 rfl
        have x1 := blk_cell B6 1 rfl
        have x2 := blk_cell B6 2 rfl
        clear hev6 B6
        go_wp2_with fail
        refine (rsame_true 0 0 (m := 0) (path := []) rfl (by decide) (Nat.le_refl _) (by decide) (Nat.le_refl _) (by decide) ⟨fun _ => rfl, fun a e => (by cases e)⟩ ⟨fun _ => rfl, fun a e => (by cases e)⟩).mono ?_
        rintro e w9 ⟨rfl, k9⟩
        go_wp2_with fail
        go_ret
        exact ⟨rfl, K7.trans k9 (fun _ h _ => h)⟩
set_option maxRecDepth 100000 in
theorem lifted (os : Os) (started : os.Started) (H : Type) (enc : TypeId × Value → H) :
    ReturnsInHanded {} Try.checked os 7 .any (Rows.merkleRootsSpec.pre6 enc Try.prog Try.f7 Rows.merkleRootsRow.domain false) (Rows.merkleRootsSpec.post enc Try.prog Try.f7 false true false false) := by
  refine returnsInHanded_of_change (C := Try.checked) own started (by kernel_rfl) Try.func7
    (ChangeSpec.witness6 (enc := enc) (C := Try.checked) false ⟨#[], #[.slice none 0 0, .int .i64 0], []⟩ 8 (by kernel_rfl) (by kernel_rfl) (by kernel_rfl) (by kernel_rfl)) ?_
  intro W base args ds gs before hval0 hW hcnd _
  have hval : ∀ (j : Nat) t v, Try.f7.params[j]? = some t → args[j]? = some v → Value.okWide Try.prog W .any base t v := hval0
  have hW' := hW
  obtain ⟨p, q, hA0, hV, rfl, hfz, hnd⟩ := hW
  have hA : DataW.TrodAll enc Try.prog W 0 (fun _ => true) true Try.f7.params.toList args.toList ds p := hA0
  rw [Try.params7] at hA hval
  obtain ⟨v0, vs0, d0, ds0, p0, q0, hargs, rfl, rfl, h0, r0⟩ := trodAll_cons hA
  obtain ⟨v1, vs1, d1, ds1, p1, q1, rfl, rfl, rfl, h1, r1⟩ := trodAll_cons r0
  obtain ⟨rfl, rfl, rfl⟩ := trodAll_nil r1
  obtain rfl : args = #[v0, v1] := by cases args; simp_all
  obtain ⟨rfl, rfl⟩ := trodVars_none hV
  have k0 := h0
  have lt0 : ∀ x ∈ p0, x.block < W.heap.size := by obtain ⟨m, hm⟩ := k0; exact DataW.trod_lt m _ _ _ hm
  have k1 := h1
  have lt1 : ∀ x ∈ p1, x.block < W.heap.size := by obtain ⟨m, hm⟩ := k1; exact DataW.trod_lt m _ _ _ hm
  obtain ⟨ao0, len0, cap0, rfl⟩ := okWide_slice Try.underlying41 (hval 0 41 v0 rfl rfl)
  obtain ⟨fuel0, hf0⟩ := h0
  obtain ⟨rows0, hn0, hR0, hlc0, hcm0⟩ := open_rows rfl hf0
  obtain ⟨a1, rfl, rfl, rfl, w1⟩ := open_int Try.underlying3 (hval 1 3 v1 rfl rfl) h1
  clear hA0 hval0
  refine (walk W hn0 hlc0 hcm0 hR0 a1).mono fun e W' ⟨he, hk⟩ => ?_
  subst he
  have bel : Below W.heap.size W W' := hk.below (Nat.le_refl _) (fun _ h => h.elim)
  exact ⟨_, rfl, _, _, _, [], _, [], hW', trodAll_mk1 (shut_bool Try.underlying4 _), (trodAll_cons_mk (Below.trod laidOut (by kernel_rfl) (of_decide_eq_true (by kernel_rfl)) k0 bel lt0) (trodAll_cons_mk (Below.trod laidOut (by kernel_rfl) (of_decide_eq_true (by kernel_rfl)) k1 bel lt1) trodAll_mk0)), rfl, bel.frame _, fun h => by cases h⟩

/-- For every input the law returns true, and its arguments read as before. -/
theorem proved : Rows.MerkleRootsSaid :=
  OpenClaim.holds_of_wide 7 Try.f7 rfl rfl rfl rfl rfl rfl rfl ⟨rfl, rfl, rfl, rfl, rfl⟩ rfl rfl rfl rfl rfl (by kernel_rfl) Try.func7 (by kernel_rfl)
    (of_decide_eq_true (by kernel_rfl)) (by unfold Func.isWrapper; first | (rw [if_pos (by decide +kernel)]; kernel_rfl) | (rw [if_neg (by decide +kernel)]; exact ⟨rfl, rfl⟩))
    (fun os started H enc _ => lifted os started H enc)
#print axioms proved

end Go.Proofs.Ytdmfomjgmmkaeaa.merkleRoots
