/- usufructlaw5.clashes, where what is told is two unlike texts with one sum. -/
import Derived.Test.YtdmfomjgmmkaeaaMerk29
namespace Go.Proofs.Ytdmfomjgmmkaeaa
open Go.RowKit

attribute [local go_sem ↓] exec_mid_hash exec_load_hash exec_store_hash exec_store_proof
attribute [local go_sem] rowOk_new World.setRow_alloc_new aggOk_proof

set_option maxRecDepth 100000 in
set_option maxHeartbeats 4000000 in
theorem clashes_any {w : World} {ao : Option Addr} {n c : Nat} {rows : List (List UInt8)} (hn : rows.length = n) (hn9 : n ≤ 1000) (hc : n ≤ c) (hcm : c ≤ maxLen) (hR : RowsAt w ao rows) (hb : ∀ r ∈ rows, r.length ≤ 1000)
    {ab : Option Addr} {nb cb : Nat} {b : List UInt8} (hB : BytesAt w ab b) (hnb : b.length = nb) (hnb9 : nb ≤ 1000) (ix ct : Int) (hix : -9223372036854775808 ≤ ix) (hct : ct < 9223372036854775808)
    {ap : Option Addr} {m cp : Nat} {path : List (List UInt8)} (hm : path.length = m) (hH : HashesAt w ap path) (hmc : m ≤ cp) (hmm : cp ≤ maxLen) (hm9 : m ≤ 1000)
    {C : Bool} (hC : (extractL rows b ix ct path).isSome = C) (hE : ∀ u v, extractL rows b ix ct path = some (u, v) → u ≠ v ∧ shaOf u = shaOf v) :
    Calls Try.prog 32 #[.slice ao n c, .slice ab nb cb, .agg #[.int .i64 ix, .int .i64 ct, .slice ap m cp]] w fun e w' => e = .returned (.bool C) ∧ Keeps Nothing w w' := by
  have K0 := (Keeps.refl Nothing w).alloc (.cells #[.int .i64 ix, .int .i64 ct, .slice ap m cp] 46)
  have hext := extract_any (w := w.alloc (.cells #[.int .i64 ix, .int .i64 ct, .slice ap m cp] 46)) (c := c) (cb := cb) hn hn9 hc hcm (hR.keepsN K0) hb (hB.keepsN K0) hnb hnb9 ix ct hix hct hm (hH.keepsN K0) hmc hmm hm9
  obtain ⟨E, hEE⟩ : ∃ E, extractL rows b ix ct path = E := ⟨_, rfl⟩
  rw [hEE] at hext hC hE
  have P0 := blk_new w #[.int .i64 ix, .int .i64 ct, .slice ap m cp] 46
  clear hEE hR hB hH hb
  go_enter Try.func32, Try.ntmps32
  go_wp2_with fail
  refine hext.mono ?_
  rintro e w1 ⟨ax, nx, cx, ay, ny, cy, rfl, k1, hx⟩
  have K1 := K0.trans k1 (fun _ h _ => h)
  clear hext K0 k1 P0
  cases E with
  | none =>
    obtain rfl : C = false := hC.symm
    rw [show (none : Option (List UInt8 × List UInt8)).isSome = false from rfl]
    clear hx
    go_wp2_with fail
    go_ret
    exact ⟨rfl, K1⟩
  | some uv =>
    obtain ⟨u, v⟩ := uv
    obtain rfl : C = true := hC.symm
    rw [show (some (u, v) : Option (List UInt8 × List UInt8)).isSome = true from rfl]
    obtain ⟨e1, e2, B1, B2, l1, l2⟩ := hx u v rfl
    obtain ⟨hne, hsh⟩ := hE u v rfl
    have s1 := run_str w1 cx u e1.symm B1
    have s2 := run_str w1 cy v e2.symm B2
    have hs1 := fun V (K : Keeps Nothing w1 V) => rsum_any (w := V) cx e1.symm (B1.keepsN K) (by omega)
    have hs2 := fun V (K : Keeps Nothing w1 V) => rsum_any (w := V) cy e2.symm (B2.keepsN K) (by omega)
    obtain ⟨X, hX, hXv, hXs, hag⟩ := hash_agg u
    rw [hXv] at hs1
    rw [← hsh, hXv] at hs2
    have heq : ∀ V, (Op.equalIn 10000 25 (.agg X) (.agg X)).run Try.prog V = .ok true V := fun V => by
      rw [hX, eql_hash_run _ _ (sha_len _) (sha_len _) V]; simp
    have hb1 : (u == v) = false := by rw [beq_eq_false_iff_ne]; exact hne
    have hb2 : (u != v) = true := by rw [bne_iff_ne]; exact hne
    clear hX hXv hx hE hsh hC e1 e2
    go_wp2_with fail
    refine (hs1 _ (Keeps.refl _ _)).mono ?_
    rintro e w2 ⟨rfl, k2⟩
    go_wp2_with fail
    refine (hs2 _ k2).mono ?_
    rintro e w3 ⟨rfl, k3⟩
    go_wp2_with fail
    go_ret
    exact ⟨rfl, (K1.trans k2 (fun _ h _ => h)).trans k3 (fun _ h _ => h)⟩

end Go.Proofs.Ytdmfomjgmmkaeaa
