/- merkle.made. -/
import Derived.Test.YtdmfomjgmmkaeaaMerk10
import Derived.Laws.EntriesVeiled
import Derived.Laws.ByValue
namespace Go.Proofs.Ytdmfomjgmmkaeaa
open Go.RowKit

theorem toArray_len {α : Type} (l : List α) : l.toArray.size = l.length := by simp
attribute [local go_sem ↓] exec_mid_hash exec_load_hash exec_store_hash
attribute [local go_sem] rowOk_new World.setRow_alloc_new

/-- What made returns. -/
def MadePost (w : World) (L : List (List UInt8)) (e : Ending) (w' : World) : Prop := ∃ ao cap vs, e = .returned (.slice ao L.length cap) ∧ OwnS w' ao cap L vs ∧ Keeps Nothing w w'
theorem madePost_nil {w w' : World} {L : List (List UInt8)} (h : L = []) (k : Keeps Nothing w w') : MadePost w L (.returned (.slice none 0 0)) w' := by
  subst h
  exact ⟨none, 0, [], rfl, ownS_nil _, k⟩

set_option maxRecDepth 100000 in
set_option maxHeartbeats 4000000 in
theorem made_any {w : World} {ab : Option Addr} {nb cb : Nat} {b : List UInt8} (hB : BytesAt w ab b) (hnb : b.length = nb) (hnb9 : nb ≤ 1000) (ix ct : Int) (hix : -9223372036854775808 ≤ ix) (hct : ct < 9223372036854775808) {ap : Option Addr} {m c : Nat} {path : List (List UInt8)} (hm : path.length = m) (hH : HashesAt w ap path) (hmc : m ≤ c) (hcm : c ≤ maxLen) (hm9 : m ≤ 100000) :
    Calls Try.prog 50 #[.slice ab nb cb, .agg #[.int .i64 ix, .int .i64 ct, .slice ap m c]] w (MadePost w (madeL b ix ct path)) := by
  have Kb := ((Keeps.refl Nothing w).alloc (.cells #[.slice ab nb cb] 22)).alloc (.cells #[.int .i64 ix, .int .i64 ct, .slice ap m c] 46)
  have hsz : ((w.alloc (.cells #[.slice ab nb cb] 22)).alloc (.cells #[.int .i64 ix, .int .i64 ct, .slice ap m c] 46)).heap.size = w.heap.size + 1 + 1 := by simp only [World.size_alloc]
  have P1 : Blk ((w.alloc (.cells #[.slice ab nb cb] 22)).alloc (.cells #[.int .i64 ix, .int .i64 ct, .slice ap m c] 46)) (w.heap.size + 1) #[.int .i64 ix, .int .i64 ct, .slice ap m c] 46 := by have := blk_new (w.alloc (.cells #[.slice ab nb cb] 22)) #[.int .i64 ix, .int .i64 ct, .slice ap m c] 46; rw [World.size_alloc] at this; exact this
  have Q1 : Blk ((w.alloc (.cells #[.slice ab nb cb] 22)).alloc (.cells #[.int .i64 ix, .int .i64 ct, .slice ap m c] 46)) w.heap.size #[.slice ab nb cb] 22 := blk_alloc (blk_new w _ _) _
  by_cases hin : 0 ≤ ix ∧ ix < ct
  · obtain ⟨i, rfl⟩ := Int.eq_ofNat_of_zero_le hin.1
    obtain ⟨n, rfl⟩ := Int.eq_ofNat_of_zero_le (show 0 ≤ ct by omega)
    have hmd : madeL b (i : Int) (n : Int) path = if (upL b i n path).2.2 then topB n (upL b i n path).2.1 :: (upL b i n path).1.reverse else [] := by
      unfold madeL
      rw [if_pos hin, Int.toNat_natCast, Int.toNat_natCast]
    obtain ⟨u1, u2, u3⟩ := upL_facts b m i n path hm hH.all32
    have hup := fun (W : World) (go gb gu : Nat) (S : MdS w W go gb gu ab nb cb none 0 [] []) => up_rec m w W go gb gu ab nb cb none 0 [] [] b ap c i n path hm hH hmc hcm (by omega) (by omega) hB hnb hnb9 (by simp; omega) (by omega) S
    obtain ⟨R, hR⟩ : ∃ R, upL b i n path = R := ⟨_, rfl⟩
    obtain ⟨r1, r2, r3⟩ := R
    rw [hR] at hup hmd u1 u2
    have hr2 : r2.length = 32 := u1
    have hr1 : r1.length ≤ m + 1 := u2
    obtain ⟨H2, hH2⟩ : ∃ H2, H2 = (r2.map byteV).toArray := ⟨_, rfl⟩
    have hH2s : H2.size = 32 := by rw [hH2]; simp [hr2]
    have hagH : aggOk 32 (.agg H2) = true := aggOk_agg 32 H2 hH2s (by rw [hH2]; exact bytes_all _)
    have HH2 := shut hH2
    have HMD := shut hmd
    have ho : Blk ((((w.alloc (.cells #[.slice ab nb cb] 22)).alloc (.cells #[.int .i64 (i : Int), .int .i64 (n : Int), .slice ap m c] 46)).alloc (.cells #[.slice none 0 0] 41)).alloc (.cells #[(.func (.func 59) #[] #[.pointer (some ⟨w.heap.size + 1 + 1, 0, none⟩), .pointer (some ⟨w.heap.size, 0, none⟩), .pointer (some ⟨w.heap.size + 1 + 1 + 1, 0, none⟩)])] 90)) (w.heap.size + 1 + 1) #[.slice none ([] : List (List UInt8)).length 0] 41 := by
      have h9 := blk_new ((w.alloc (.cells #[.slice ab nb cb] 22)).alloc (.cells #[.int .i64 (i : Int), .int .i64 (n : Int), .slice ap m c] 46)) #[.slice none 0 0] 41
      rw [hsz] at h9
      exact blk_alloc h9 _
    have hu : Blk ((((w.alloc (.cells #[.slice ab nb cb] 22)).alloc (.cells #[.int .i64 (i : Int), .int .i64 (n : Int), .slice ap m c] 46)).alloc (.cells #[.slice none 0 0] 41)).alloc (.cells #[(.func (.func 59) #[] #[.pointer (some ⟨w.heap.size + 1 + 1, 0, none⟩), .pointer (some ⟨w.heap.size, 0, none⟩), .pointer (some ⟨w.heap.size + 1 + 1 + 1, 0, none⟩)])] 90)) (w.heap.size + 1 + 1 + 1) #[upV (w.heap.size + 1 + 1) w.heap.size (w.heap.size + 1 + 1 + 1)] 90 := by
      have h9 := blk_new (((w.alloc (.cells #[.slice ab nb cb] 22)).alloc (.cells #[.int .i64 (i : Int), .int .i64 (n : Int), .slice ap m c] 46)).alloc (.cells #[.slice none 0 0] 41)) #[(.func (.func 59) #[] #[.pointer (some ⟨w.heap.size + 1 + 1, 0, none⟩), .pointer (some ⟨w.heap.size, 0, none⟩), .pointer (some ⟨w.heap.size + 1 + 1 + 1, 0, none⟩)])] 90
      rw [World.size_alloc, hsz] at h9
      exact h9
    have hp : Blk ((((w.alloc (.cells #[.slice ab nb cb] 22)).alloc (.cells #[.int .i64 (i : Int), .int .i64 (n : Int), .slice ap m c] 46)).alloc (.cells #[.slice none 0 0] 41)).alloc (.cells #[(.func (.func 59) #[] #[.pointer (some ⟨w.heap.size + 1 + 1, 0, none⟩), .pointer (some ⟨w.heap.size, 0, none⟩), .pointer (some ⟨w.heap.size + 1 + 1 + 1, 0, none⟩)])] 90)) (w.heap.size + 1) #[.int .i64 (i : Int), .int .i64 (n : Int), .slice ap m c] 46 := blk_alloc (blk_alloc P1 _) _
    have hb : Blk ((((w.alloc (.cells #[.slice ab nb cb] 22)).alloc (.cells #[.int .i64 (i : Int), .int .i64 (n : Int), .slice ap m c] 46)).alloc (.cells #[.slice none 0 0] 41)).alloc (.cells #[(.func (.func 59) #[] #[.pointer (some ⟨w.heap.size + 1 + 1, 0, none⟩), .pointer (some ⟨w.heap.size, 0, none⟩), .pointer (some ⟨w.heap.size + 1 + 1 + 1, 0, none⟩)])] 90)) w.heap.size #[.slice ab nb cb] 22 := blk_alloc (blk_alloc Q1 _) _
    have S0 : MdS w ((((w.alloc (.cells #[.slice ab nb cb] 22)).alloc (.cells #[.int .i64 (i : Int), .int .i64 (n : Int), .slice ap m c] 46)).alloc (.cells #[.slice none 0 0] 41)).alloc (.cells #[(.func (.func 59) #[] #[.pointer (some ⟨w.heap.size + 1 + 1, 0, none⟩), .pointer (some ⟨w.heap.size, 0, none⟩), .pointer (some ⟨w.heap.size + 1 + 1 + 1, 0, none⟩)])] 90)) (w.heap.size + 1 + 1) w.heap.size (w.heap.size + 1 + 1 + 1) ab nb cb none 0 [] [] := ⟨(Kb.alloc _).alloc _, hu, hb, ho, ownS_nil _, by omega, by omega, by omega, fun g hg => by simp [blockOf] at hg, by simp [blockOf]⟩
    have hdn := hup _ _ _ _ S0
    have b0 := blk_cell hp 0 (show (#[.int .i64 (i : Int), .int .i64 (n : Int), .slice ap m c] : Array Value)[0]? = some (.int .i64 (i : Int)) from rfl)
    have b1 := blk_cell hp 1 (show (#[.int .i64 (i : Int), .int .i64 (n : Int), .slice ap m c] : Array Value)[1]? = some (.int .i64 (n : Int)) from rfl)
    have b2 := blk_cell hp 2 (show (#[.int .i64 (i : Int), .int .i64 (n : Int), .slice ap m c] : Array Value)[2]? = some (.slice ap m c) from rfl)
    have c0 := blk_cell P1 0 (show (#[.int .i64 (i : Int), .int .i64 (n : Int), .slice ap m c] : Array Value)[0]? = some (.int .i64 (i : Int)) from rfl)
    have c1 := blk_cell P1 1 (show (#[.int .i64 (i : Int), .int .i64 (n : Int), .slice ap m c] : Array Value)[1]? = some (.int .i64 (n : Int)) from rfl)
    have m1 : ¬ (i : Int) < 0 := by omega
    have m2 : ¬ (n : Int) ≤ i := by omega
    have m3 : (i : Int) < n := by omega
    clear hup hR hmd u1 u2 u3 hH2 hB hH P1 Q1 Kb S0 hu hb ho hin hsz
    go_enter Try.func50, Try.ntmps50
    go_wp2_with fail
    refine hdn.mono ?_
    rintro e w2 ⟨rfl, ao2, cap2, vs2, S2, K2, M2⟩
    rw [List.nil_append] at S2
    rw [show hashV (r1, r2, r3).2.1 = .agg H2 from by rw [HH2.out]; rfl]
    have hp2 := K2.blk hp (fun h => by rcases h with h | h; omega; simp [blockOf] at h)
    clear hdn hp b0 b1 b2 c0 c1 K2 M2
    generalize hgo : w.heap.size + 1 + 1 = go at *
    generalize hgp : w.heap.size + 1 = gp at *
    generalize hgu : go + 1 = gu at *
    have HGP := shut hgp
    have HGO := shut hgo
    cases r3 with
    | false =>
      have HM2 : Shut (madeL b (i : Int) (n : Int) path = []) := shut (by rw [HMD.out]; rfl)
      have KF := S2.keep.alloc (.cells H2 25)
      go_wp2_with fail
      go_ret
      exact madePost_nil HM2.out KF
    | true =>
      have HM2 : Shut (madeL b (i : Int) (n : Int) path = (r1 ++ [topB n r2]).reverse) := shut (by rw [HMD.out]; simp)
      have htl : (topB n r2).length = 41 := by unfold topB; simp [hr2, be8_len]
      have htop := fun W (g : Nat) (hB : Blk W g H2 25) => top_any (w := W) n (by omega) 32 hr2 (bytesAt_blk hB HH2.out) (by decide)
      have S3 := S2.keepsN ((Keeps.refl _ _).alloc (.cells H2 25))
      have D3 := blk_new w2 H2 25
      have hp3 := blk_alloc hp2 (.cells H2 25)
      generalize topB n r2 = TP at *
      clear hp2
      go_wp2_with fail
      clear S2
      generalize w2.alloc (.cells H2 25) = w3 at *
      generalize w2.heap.size = g7 at *
      have q1 : w3.cell? ⟨go, 0, none⟩ = some (.slice ao2 r1.length cap2) := blk_cell S3.ov 0 rfl
      have q2 : w3.cell? ⟨gp, 1, none⟩ = some (.int .i64 (n : Int)) := blk_cell hp3 1 rfl
      refine wp_region_mixT (fun W => W.cell? ⟨go, 0, none⟩ = some (.slice ao2 r1.length cap2) ∧ W.cell? ⟨gp, 1, none⟩ = some (.int .i64 (n : Int))) 7 (.take 0 (.take 1 (.take 2 (.take 3 (.one 4 (.one 5 (.one 6 (.one 7 .done)))))))) (by kernel_rfl) (by kernel_rfl) ⟨q1, q2⟩ ?_
      simp only [itemsT, PlanT.map, List.getD_cons_zero, List.getD_cons_succ, Nat.reduceBEq]
      refine wpMixT_yield (v := .slice ao2 r1.length cap2) (fun W hW => ?_) (fun K hK => ?_)
      · obtain ⟨z1, z2⟩ := hW
        go_simp
      go_simp
      refine hK _ ?_
      clear hK K
      repeat (refine wpMixT_free (fun K hK => ?_); go_simp; refine hK _ ?_; clear hK K)
      refine wpMixT_yield (v := .int .i64 (n : Int)) (fun W hW => ?_) (fun K hK => ?_)
      · obtain ⟨z1, z2⟩ := hW
        go_simp
      go_simp
      refine hK _ ?_
      clear hK K
      repeat (refine wpMixT_free (fun K hK => ?_); go_simp; refine hK _ ?_; clear hK K)
      refine wpMixT_one (fun K hK => ?_)
      go_wp2_with fail
      refine (htop w3.drew g7 D3).mono ?_
      rintro e w4 ⟨a4, c4, rfl, o4, k4, _⟩
      have S4 := (S3.keepsN (Keeps.drew (Keeps.refl _ _))).keepsN k4
      have p1 := k4.cell (a := w3.drew) q1 (fun h => h)
      have p2 := k4.cell (a := w3.drew) q2 (fun h => h)
      have hp4 := k4.blk (a := w3.drew) hp3 (fun h => h)
      clear S3 D3 hp3 q1 q2 k4 htop
      rw [htl]
      go_wp2_with fail
      refine hK _ _ (.inr ⟨p1, p2⟩) ?_
      clear hK K
      refine wpMixT_one (fun K hK => ?_)
      go_wp2_with fail
      have A1 := (Keeps.refl Nothing w4).alloc (.cells #[.slice a4 41 c4] 22)
      have S5 := S4.keepsN A1
      have D5 := blk_new w4 #[.slice a4 41 c4] 22
      have o5 : Own8 (w4.alloc (.cells #[.slice a4 41 c4] 22)) 5 a4 c4 TP := World.ownsRow.alloc o4 _
      have q1 := A1.cell p1 (fun h => h)
      have q2 := A1.cell p2 (fun h => h)
      have hp5 := A1.blk hp4 (fun h => h)
      clear S4 o4 p1 p2 A1 hp4
      generalize w4.alloc (.cells #[.slice a4 41 c4] 22) = w5 at *
      generalize w4.heap.size = g5 at *
      refine hK _ _ (.inr ⟨q1, q2⟩) ?_
      clear hK K
      refine wpMixT_one (fun K hK => ?_)
      refine wpList_appS _ rfl (.tmp 33) (.tmp 38) rfl ao2 cap2 r1 vs2 r1.length rfl rfl S5.own g5 TP a4 c4 htl rfl D5 o5 (by omega) ?_
      intro a6 c6 w6 o6 k6 m6
      have S6 := S5.app o6 k6 m6 (n := r1.length + 1) (by simp)
      have ov6 := k6.blk S5.ov (ownS_ne S5.own S5.ov (by decide))
      have p1 : w6.cell? ⟨go, 0, none⟩ = some (.slice ao2 r1.length cap2) := blk_cell ov6 0 rfl
      have f6 := blk_free ov6 0
      have p2 : w6.cell? ⟨gp, 1, none⟩ = some (.int .i64 (n : Int)) := k6.cell q2 (fun e => by
        exact ownS_ne S5.own hp5 (by decide) e)
      clear S5 D5 o5 hp5 q1 q2 o6 k6 m6 ov6
      go_wp2_with fail
      refine hK _ _ (.inr ⟨p1, p2⟩) ?_
      clear hK K
      refine wpMixT_one (fun K hK => ?_)
      go_wp2_with fail
      refine hK _ _ (.inl trivial) ?_
      clear hK K p1 p2 f6
      generalize w6.setCell ⟨go, 0, none⟩ (.slice a6 (r1.length + 1) c6) = w7 at *
      refine wpMixT_done ?_
      have q5 : w7.cell? ⟨go, 0, none⟩ = some (.slice a6 (r1.length + 1) c6) := by
        have h9 := blk_cell S6.ov 0 (show (#[.slice a6 (r1 ++ [TP]).length c6] : Array Value)[0]? = some (.slice a6 (r1 ++ [TP]).length c6) from rfl)
        rw [List.length_append] at h9
        exact h9
      go_wp2_with fail
      refine (turned_any S6.own (n := r1.length + 1) (by simp) (by omega)).mono ?_
      rintro e w8 ⟨a8, c8, v8, rfl, o8, k8⟩
      have K8 := S6.keep.trans k8 (fun _ h _ => h)
      have hll : (madeL b (i : Int) (n : Int) path).length = r1.length + 1 := by rw [HM2.out]; simp
      go_wp2_with fail
      go_ret
      exact ⟨a8, c8, v8, by rw [hll]; rfl, by rw [HM2.out]; exact o8, K8⟩
  · have hmd : madeL b ix ct path = [] := by unfold madeL; rw [if_neg hin]
    have HMD := shut hmd
    have hcase : ix < 0 ∨ (¬ ix < 0 ∧ ct ≤ ix) := by omega
    have Kb' := shut Kb
    clear hin hmd hB hH Kb Q1 hsz
    have b0 := blk_cell P1 0 (show (#[.int .i64 ix, .int .i64 ct, .slice ap m c] : Array Value)[0]? = some (.int .i64 ix) from rfl)
    have b1 := blk_cell P1 1 (show (#[.int .i64 ix, .int .i64 ct, .slice ap m c] : Array Value)[1]? = some (.int .i64 ct) from rfl)
    clear P1
    rcases hcase with m1 | ⟨m1, m2⟩
    all_goals
      go_enter Try.func50, Try.ntmps50
      go_wp2_with fail
      go_ret
      exact madePost_nil HMD.out Kb'.out

end Go.Proofs.Ytdmfomjgmmkaeaa
