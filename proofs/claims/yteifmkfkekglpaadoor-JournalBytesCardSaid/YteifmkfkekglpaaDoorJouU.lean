/- usufructref25.Frame. usufructref25.Scan. -/
import Derived.Test.YteifmkfkekglpaaDoorJouS
import Derived.Test.YteifmkfkekglpaaDoorSha16
import Derived.Test.YteifmkfkekglpaaDoorRefE
import Derived.Test.YteifmkfkekglpaaDoorMixT
namespace Go.Proofs.YteifmkfkekglpaaDoor
open Go.RowKit

theorem be4_get (n : Nat) (hn : n ≤ 1000000) : (Value.int .u8 ((n : Int) / 16777216) = byteV ((be4 n).getD 0 0)) ∧ (Value.int .u8 ((n : Int) / 65536) = byteV ((be4 n).getD 1 0)) ∧ (Value.int .u8 ((n : Int) / 256 % 256) = byteV ((be4 n).getD 2 0)) ∧ (Value.int .u8 ((n : Int) % 256) = byteV ((be4 n).getD 3 0)) := by
  have h := be4_cells n hn
  unfold be4 at h ⊢
  simp only [List.map_cons, List.map_nil, Array.mk.injEq, List.cons.injEq] at h
  exact ⟨h.1, h.2.1, h.2.2.1, h.2.2.2.1⟩
theorem be4_take (n : Nat) : ∀ j, j < 4 → (be4 n).take j ++ [(be4 n).getD j 0] = (be4 n).take (j + 1) := by
  intro j hj
  have : j = 0 ∨ j = 1 ∨ j = 2 ∨ j = 3 := by omega
  rcases this with rfl | rfl | rfl | rfl <;> rfl

def RFramePost (w : World) (x : EntT) (e : Ending) (w' : World) : Prop :=
  (frameP x → e = .returned (.tuple #[.string ⟨(frameE x).toArray⟩, .int .i64 0]) ∧ Keeps Nothing w w') ∧
  (¬ frameP x → e = .returned (.tuple #[.string ⟨#[]⟩, .int .i64 1]) ∧ Keeps Nothing w w')

attribute [local go_sem ↓] exec_load_hash exec_store_hash
attribute [local go_sem] rowOk_new World.setRow_alloc_new

set_option maxRecDepth 100000 in
set_option maxHeartbeats 2000000 in
theorem rframe_any (w : World) (x : EntT) (hx : x.Fit) (hd : x.data.length ≤ 5000) : Calls Tryd.prog 9 #[.agg x.cells.toArray] w (RFramePost w x) := by
  have hFP : Shut (∀ w', frameP x → Keeps Nothing w w' → RFramePost w x (.returned (.tuple #[.string ⟨(frameE x).toArray⟩, .int .i64 0])) w') := shut (fun w' hy h2 => ⟨fun _ => ⟨rfl, h2⟩, fun h => absurd hy h⟩)
  obtain ⟨cr, ep, dt⟩ := x
  have hc0 := hx.c0
  have hc1 := hx.c1
  have hp0 := hx.p0
  have hp1 := hx.p1
  have henl : (encE ⟨cr, ep, dt⟩).length ≤ 6000 := by
    have := encE_len ⟨cr, ep, dt⟩ hx (by simp only at hd ⊢; omega)
    simp only at this hd
    omega
  simp only at hc0 hc1 hp0 hp1 hd
  show Calls _ _ #[.agg #[.int .i64 cr, .int .i64 ep, .string ⟨dt.toArray⟩]] _ _
  have B := blk_new w #[.int .i64 cr, .int .i64 ep, .string ⟨dt.toArray⟩] 23
  have K := (Keeps.refl Nothing w).alloc (.cells #[.int .i64 cr, .int .i64 ep, .string ⟨dt.toArray⟩] 23)
  by_cases hy : frameP ⟨cr, ep, dt⟩
  · have hyy := hy
    unfold frameP at hyy
    simp only at hyy
    obtain ⟨y1, y2, y3, y4, y5⟩ := hyy
    have HFIN : Shut (∀ w', Keeps Nothing w w' → RFramePost w ⟨cr, ep, dt⟩ (.returned (.tuple #[.string ⟨(frameE ⟨cr, ep, dt⟩).toArray⟩, .int .i64 0])) w') := shut (fun w' => hFP.out w' hy)
    clear hFP hy
    have m1 : ¬ cr < -2 := by omega
    have m2 : ¬ (63 : Int) < cr := by omega
    have m3 : ¬ ep < 0 := by omega
    have m4 : ¬ (1099511627776 : Int) < ep := by omega
    have m5 : ¬ (4194304 : Int) < dt.length := by omega
    have hsz : (⟨dt.toArray⟩ : ByteArray).size = dt.length := rfl
    go_enter Tryd.func9, Tryd.ntmps9
    go_wp2_with fail
    obtain ⟨gb, hgb⟩ : ∃ gb, gb = w.heap.size := ⟨_, rfl⟩
    rw [← hgb] at B ⊢
    clear hgb
    generalize w.alloc (.cells #[.int .i64 cr, .int .i64 ep, .string ⟨dt.toArray⟩] 23) = w1 at *
    refine wp_region_mix (fun W => Blk W gb #[.int .i64 cr, .int .i64 ep, .string ⟨dt.toArray⟩] 23) [(true, 0), (true, 1), (true, 3), (true, 4), (true, 7), (true, 8), (false, 2), (false, 5), (true, 6), (false, 9), (true, 10), (true, 11)] (by kernel_rfl) (by kernel_rfl) B ?_
    simp only [mixItems, List.map_cons, List.map_nil, List.getD_cons_zero, List.getD_cons_succ]
    have k1 : Keeps Nothing w w1.drew := K.drewN _
    have B1 : Blk w1.drew gb #[.int .i64 cr, .int .i64 ep, .string ⟨dt.toArray⟩] 23 := B
    clear B K
    generalize w1.drew = w2 at *
    repeat (refine wpMix_free (fun K hK => ?_); go_simp; refine hK _ ?_; clear hK K)
    refine wpMix_yield (v := .int .i64 cr) (fun W hW => ?_) (fun K hK => ?_)
    · have zz : W.cell? ⟨gb, 0, none⟩ = some (.int .i64 cr) := blk_cell hW 0 rfl
      go_simp
    go_simp
    refine hK _ ?_
    clear hK K
    repeat (refine wpMix_free (fun K hK => ?_); go_simp; refine hK _ ?_; clear hK K)
    refine wpMix_yield (v := .int .i64 ep) (fun W hW => ?_) (fun K hK => ?_)
    · have zz : W.cell? ⟨gb, 1, none⟩ = some (.int .i64 ep) := blk_cell hW 1 rfl
      go_simp
    go_simp
    refine hK _ ?_
    clear hK K
    repeat (refine wpMix_free (fun K hK => ?_); go_simp; refine hK _ ?_; clear hK K)
    refine wpMix_yield (v := .string ⟨dt.toArray⟩) (fun W hW => ?_) (fun K hK => ?_)
    · have zz : W.cell? ⟨gb, 2, none⟩ = some (.string ⟨dt.toArray⟩) := blk_cell hW 2 rfl
      go_simp
    go_simp
    refine hK _ ?_
    clear hK K
    refine wpMix_one (fun K hK => ?_)
    go_wp2_with fail
    refine (refInt cr hc0 hc1 w2).mono ?_
    rintro e w3 ⟨rfl, k3⟩
    have B3 := k3.blk B1 (fun h => h)
    have k13 := k1.trans k3 (fun _ h _ => h)
    clear k1 k3 B1
    go_wp2_with fail
    refine hK _ _ B3 ?_
    clear hK K
    refine wpMix_one (fun K hK => ?_)
    go_wp2_with fail
    refine (refInt ep hp0 hp1 w3).mono ?_
    rintro e w4 ⟨rfl, k4⟩
    have B4 := k4.blk B3 (fun h => h)
    have k14 := k13.trans k4 (fun _ h _ => h)
    clear k13 k4 B3
    go_wp2_with fail
    refine hK _ _ B4 ?_
    clear hK K
    have l1 : (encI cr).length ≤ 10 := encU_len10 (zig_lt cr hc0 hc1)
    have l2 : (encI ep).length ≤ 10 := encU_len10 (zig_lt ep hp0 hp1)
    have hs1 : (⟨(encI cr).toArray⟩ : ByteArray).size = (encI cr).length := rfl
    have hs2 : (⟨(encI ep).toArray⟩ : ByteArray).size = (encI ep).length := rfl
    have hcat : ¬ 9223372036854775807 < (encI cr).length + (encI ep).length := by omega
    refine wpMix_free (fun K hK => ?_)
    go_simp
    rw [ByteArray.mk_append_mk]
    obtain ⟨E12, hE12⟩ : ∃ E, encI cr ++ encI ep = E := ⟨_, rfl⟩
    have hl12 : E12.length ≤ 20 := by rw [← hE12, List.length_append]; omega
    rw [hE12]
    have HE12 := shut hE12
    clear hE12
    refine hK _ ?_
    clear hK K hcat hs1 hs2 l1 l2
    have hrt := refText ⟨dt.toArray⟩ (by show dt.toArray.size ≤ _; rw [List.size_toArray]; omega) w4
    rw [show bytesOf ⟨dt.toArray⟩ = dt by simp [bytesOf]] at hrt
    refine wpMix_one (fun K hK => ?_)
    go_wp2_with fail
    refine hrt.mono ?_
    rintro e w5 ⟨rfl, k5⟩
    have B5 := k5.blk B4 (fun h => h)
    have k15 := k14.trans k5 (fun _ h _ => h)
    clear k14 k5 B4 hrt
    go_wp2_with fail
    refine hK _ _ B5 ?_
    clear hK K B5
    have hs1 : (⟨E12.toArray⟩ : ByteArray).size = E12.length := rfl
    have hs2 : (⟨(encS dt).toArray⟩ : ByteArray).size = (encS dt).length := rfl
    have hls : (encS dt).length ≤ 6000 := by
      have : (encE ⟨cr, ep, dt⟩).length = (encI cr ++ encI ep ++ encS dt).length := rfl
      rw [List.length_append] at this
      omega
    have hcat : ¬ 9223372036854775807 < E12.length + (encS dt).length := by omega
    refine wpMix_free (fun K hK => ?_)
    go_simp
    rw [ByteArray.mk_append_mk]
    obtain ⟨E, hE⟩ : ∃ E, E12 ++ encS dt = E := ⟨_, rfl⟩
    have hEE : encE ⟨cr, ep, dt⟩ = E := by rw [← hE, ← HE12.out]; rfl
    rw [hE]
    rw [hEE] at henl
    have HE := shut hEE
    clear hE hEE
    refine hK _ ?_
    clear hK K hcat hs1 hs2 hls
    repeat (refine wpMix_free (fun K hK => ?_); go_simp; refine hK _ ?_; clear hK K)
    refine wpMix_nil ?_
    have hsE : (⟨E.toArray⟩ : ByteArray).size = E.length := rfl
    obtain ⟨n, hn⟩ : ∃ n, E.length = n := ⟨_, rfl⟩
    rw [hn] at hsE henl
    have HN := shut hn
    clear hn
    go_wp2_with fail
    go_loopw [5, 6] (fun s5 s6 wx => ∃ (j : Nat) (o : Option Addr) (c : Nat), s5 = .slice o j c ∧ s6 = .int .i64 (3 - j : Int) ∧ j ≤ 4 ∧ Own8 wx 5 o c ((be4 n).take j) ∧ Keeps Nothing w wx ∧ Shut (∀ g, blockOf o = some g → w.heap.size ≤ g)) (fun _ s6 _ => ((intOf s6) + 1).toNat)
    case atStart => exact ⟨0, none, 0, rfl, rfl, by omega, World.ownsRow_nil _ _ _ _, k15, shut (fun g hg => by simp [blockOf] at hg)⟩
    case round =>
      clear k15
      obtain ⟨j, o, c, rfl, rfl, hj, hO, K, HF⟩ := hrel
      by_cases hj4 : j < 4
      · have hbg := shut (be4_get n (by omega))
        have hcs : j = 0 ∨ j = 1 ∨ j = 2 ∨ j = 3 := by omega
        rcases hcs with rfl | rfl | rfl | rfl
        · go_wp2_with (at_builtin; refine wpList_app8 _ rfl (.tmp 48) (.tmp 57) 25 rfl o c ((be4 n).take 0) rfl (hO.alloc _) _ rfl [(be4 n).getD 0 0] (src_new wr _ hbg.out.1) ?c2 ?c3 ?_)
          case c2 => show 0 ≤ 1000000000000; omega
          case c3 => show 1 ≤ 1000000000000; omega
          intro o1 c1 w6 hO1 k6 m6
          have ka : Keeps Nothing wr (wr.alloc (.cells #[Value.int .u8 ((n : Int) / 16777216)] 5)) := (Keeps.refl Nothing wr).alloc _
          have K6 : Keeps Nothing w w6 := (K.trans ka (fun _ h _ => h)).trans k6 (fun i hi hlt => by have := HF.out i hi; omega)
          have HF6 := shut (m6.new (by have := K.size; omega) HF.out)
          have hO2 : Own8 w6 5 o1 c1 ((be4 n).take 1) := hO1
          clear k6 m6 ka K HF hO hO1
          go_wp2_with fail
          go_roundw
          case rel => exact ⟨1, o1, c1, rfl, by go_num, by omega, hO2, K6, HF6⟩
          case measure => simp [intOf]
        · go_wp2_with (at_builtin; refine wpList_app8 _ rfl (.tmp 48) (.tmp 57) 25 rfl o c ((be4 n).take 1) rfl (hO.alloc _) _ rfl [(be4 n).getD 1 0] (src_new wr _ hbg.out.2.1) ?c2 ?c3 ?_)
          case c2 => show 1 ≤ 1000000000000; omega
          case c3 => show 1 ≤ 1000000000000; omega
          intro o1 c1 w6 hO1 k6 m6
          have ka : Keeps Nothing wr (wr.alloc (.cells #[Value.int .u8 ((n : Int) / 65536)] 5)) := (Keeps.refl Nothing wr).alloc _
          have K6 : Keeps Nothing w w6 := (K.trans ka (fun _ h _ => h)).trans k6 (fun i hi hlt => by have := HF.out i hi; omega)
          have HF6 := shut (m6.new (by have := K.size; omega) HF.out)
          have hO2 : Own8 w6 5 o1 c1 ((be4 n).take 2) := hO1
          clear k6 m6 ka K HF hO hO1
          go_wp2_with fail
          go_roundw
          case rel => exact ⟨2, o1, c1, rfl, by go_num, by omega, hO2, K6, HF6⟩
          case measure => simp [intOf]
        · go_wp2_with (at_builtin; refine wpList_app8 _ rfl (.tmp 48) (.tmp 57) 25 rfl o c ((be4 n).take 2) rfl (hO.alloc _) _ rfl [(be4 n).getD 2 0] (src_new wr _ (by have h := hbg.out.2.2.1; rwa [show (n : Int) / 256 % 256 = (n : Int) / 256 by omega] at h)) ?c2 ?c3 ?_)
          case c2 => show 2 ≤ 1000000000000; omega
          case c3 => show 1 ≤ 1000000000000; omega
          intro o1 c1 w6 hO1 k6 m6
          have ka : Keeps Nothing wr (wr.alloc (.cells #[Value.int .u8 ((n : Int) / 256)] 5)) := (Keeps.refl Nothing wr).alloc _
          have K6 : Keeps Nothing w w6 := (K.trans ka (fun _ h _ => h)).trans k6 (fun i hi hlt => by have := HF.out i hi; omega)
          have HF6 := shut (m6.new (by have := K.size; omega) HF.out)
          have hO2 : Own8 w6 5 o1 c1 ((be4 n).take 3) := hO1
          clear k6 m6 ka K HF hO hO1
          go_wp2_with fail
          go_roundw
          case rel => exact ⟨3, o1, c1, rfl, by go_num, by omega, hO2, K6, HF6⟩
          case measure => simp [intOf]
        · go_wp2_with (at_builtin; refine wpList_app8 _ rfl (.tmp 48) (.tmp 57) 25 rfl o c ((be4 n).take 3) rfl (hO.alloc _) _ rfl [(be4 n).getD 3 0] (src_new wr _ hbg.out.2.2.2) ?c2 ?c3 ?_)
          case c2 => show 3 ≤ 1000000000000; omega
          case c3 => show 1 ≤ 1000000000000; omega
          intro o1 c1 w6 hO1 k6 m6
          have ka : Keeps Nothing wr (wr.alloc (.cells #[Value.int .u8 ((n : Int) % 256)] 5)) := (Keeps.refl Nothing wr).alloc _
          have K6 : Keeps Nothing w w6 := (K.trans ka (fun _ h _ => h)).trans k6 (fun i hi hlt => by have := HF.out i hi; omega)
          have HF6 := shut (m6.new (by have := K.size; omega) HF.out)
          have hO2 : Own8 w6 5 o1 c1 ((be4 n).take 4) := hO1
          clear k6 m6 ka K HF hO hO1
          go_wp2_with fail
          go_roundw
          case rel => exact ⟨4, o1, c1, rfl, by go_num, by omega, hO2, K6, HF6⟩
          case measure => simp [intOf]
      · obtain rfl : j = 4 := by omega
        have hbe : (be4 n).take 4 = be4 n := rfl
        rw [hbe] at hO
        clear hbe hj hj4
        obtain ⟨cap2, w2', hrun, hat, K2, hs2⟩ := run_bytes wr ⟨E.toArray⟩
        rw [show bytesOf ⟨E.toArray⟩ = E by simp [bytesOf]] at hat
        rw [hsE] at hrun
        have hsum := rsum_any cap2 HN.out hat (by omega)
        obtain ⟨X, hX⟩ : ∃ X, ((shaOf E).map byteV).toArray = X := ⟨_, rfl⟩
        have hXs : X.size = 32 := by rw [← hX]; simp [jsha_len]
        have hag : aggOk 32 (.agg X) = true := by rw [← hX]; exact aggOk_agg 32 _ (by simp [jsha_len]) (bytes_all _)
        unfold hashV at hsum
        rw [hX] at hsum
        have HX := shut hX
        have hO2 := K2.own hO (fun _ _ h => h)
        have KB := K.trans K2 (fun _ h _ => h)
        clear hX K2 hat hO K hs2
        generalize wr.heap.size = ge at *
        go_wp2_with fail
        refine hsum.mono ?_
        rintro e w6 ⟨rfl, k6⟩
        have hO3 := k6.own hO2 (fun _ _ h => h)
        have K6 := KB.trans k6 (fun _ h _ => h)
        have BX := blk_new w6 X 70
        have ka : Keeps Nothing w6 (w6.alloc (.cells X 70)) := (Keeps.refl Nothing w6).alloc _
        have hO4 := ka.own hO3 (fun _ _ h => h)
        have K7 := K6.trans ka (fun _ h _ => h)
        have hgx : w.heap.size ≤ w6.heap.size := K6.size
        have hne : ∀ g, blockOf o = some g → g < w6.heap.size := fun g hg => own_lt hO3 (by rw [ownBlock_eq]; exact hg)
        clear hsum hrun k6 hO2 hO3 KB K6 ka
        go_wp2_with fail
        have HKX : Shut (w.heap.size ≤ w6.heap.size) := shut hgx
        generalize hgX : w6.heap.size = gX at *
        generalize w6.alloc (.cells X 70) = w7 at *
        clear hgX hgx
        have HS := shut (fun i (hi : i < 32) => (⟨_, List.getElem?_eq_getElem (by rw [jsha_len]; exact hi)⟩ : ∃ c, (shaOf E)[i]? = some c))
        go_loopw [5, 8] (fun s5 s8 wx => ∃ (j : Nat) (o : Option Addr) (c : Nat), s5 = .slice o (be4 n ++ (shaOf E).take j).length c ∧ s8 = .int .i64 j ∧ j ≤ 8 ∧ Own8 wx 5 o c (be4 n ++ (shaOf E).take j) ∧ Blk wx gX X 70 ∧ Keeps Nothing w wx ∧ Shut (∀ g, blockOf o = some g → w.heap.size ≤ g ∧ g ≠ gX)) (fun _ s8 _ => 8 - (intOf s8).toNat)
        case atStart => exact ⟨0, o, c, by simp [be4], rfl, by omega, by simpa using hO4, BX, K7, shut (fun g hg => ⟨HF.out g hg, by have := hne g hg; omega⟩)⟩
        case round =>
          clear hO4 BX K7 HF hne
          obtain ⟨j, o, c, rfl, rfl, hj, hO, BX, K, HF⟩ := hrel
          by_cases hj8 : j < 8
          · obtain ⟨d, hd⟩ := HS.out j (by omega)
            have hcell : wr.cell? ⟨gX, j, none⟩ = some (.int .u8 (d.toNat : Int)) := by
              refine blk_cell BX j ?_
              rw [← HX.out]; simp [hd, byteV]
            have hbsz := lt_of_block BX
            have htk := shut (take_succ_snoc hd)
            have hle : ((shaOf E).take j).length ≤ 32 := by rw [List.length_take]; omega
            clear hd
            generalize hT : (shaOf E).take j = T at *
            have HT := shut hT
            clear hT
            have hlen : (be4 n ++ T).length ≤ 100 := by rw [List.length_append]; have : (be4 n).length = 4 := rfl; omega
            obtain ⟨Q, hQ⟩ : ∃ Q, be4 n ++ T = Q := ⟨_, rfl⟩
            rw [hQ] at hO hlen ⊢
            have HQ := shut hQ
            clear hQ
            go_wp2_with (at_builtin; refine wpList_app8 _ rfl (.tmp 66) (.tmp 70) 25 rfl o c Q rfl (hO.alloc _) _ rfl [d] (src_new wr _ ?c1) ?c2 ?c3 ?_)
            case c1 => rfl
            case c2 => omega
            case c3 => simp
            intro o1 c1 w8 hO1 k8 m8
            have K1 : Keeps (fun k => blockOf o = some k) wr w8 := ((Keeps.refl _ _).alloc _).trans k8 (fun _ h _ => h)
            have BX1 := K1.blk BX (fun h => (HF.out _ h).2 rfl)
            have K8 : Keeps Nothing w w8 := K.trans K1 (fun i h hlt => by have := (HF.out _ h).1; omega)
            have HF1 : Shut (∀ g, blockOf o1 = some g → w.heap.size ≤ g ∧ g ≠ gX) := shut (fun g hg => by
              rcases m8 with h | ⟨g', h, hg'⟩
              · exact HF.out g (h ▸ hg)
              · rw [h] at hg; obtain rfl := Option.some.inj hg; have := K.size; omega)
            clear k8 m8 K1 hO
            go_wp2_with fail
            go_roundw
            case rel => exact ⟨j + 1, o1, c1, by rw [htk.out, ← List.append_assoc, HQ.out, List.length_append]; rfl, by go_num, by omega, by rw [htk.out, ← List.append_assoc, HQ.out]; exact hO1, BX1, K8, HF1⟩
            case measure => simp [intOf]; omega
          · obtain rfl : j = 8 := by omega
            obtain ⟨Q, hQ⟩ : ∃ Q, be4 n ++ (shaOf E).take 8 = Q := ⟨_, rfl⟩
            rw [hQ] at hO ⊢
            have hQl : Q.length = 12 := by rw [← hQ, List.length_append, List.length_take, jsha_len]; rfl
            have hfr : Q ++ E = frameE ⟨cr, ep, dt⟩ := by
              rw [frameE_eq, HE.out, ← hQ, HN.out, List.append_assoc]
            have hconv := run_str wr c Q hQl (own8_at hO)
            rw [hQl]
            have HQl := shut hQl
            have HFR := shut hfr
            clear hQ hfr hQl hO
            have hsQ : (⟨Q.toArray⟩ : ByteArray).size = 12 := HQl.out
            have hcat : ¬ 9223372036854775807 < 12 + n := by omega
            go_wp2_with fail
            go_ret2
            rw [ByteArray.mk_append_mk, HFR.out]
            exact HFIN.out _ K
  · have hno := hy
    unfold frameP at hno
    simp only at hno
    have hsz : (⟨dt.toArray⟩ : ByteArray).size = dt.length := rfl
    go_enter Tryd.func9, Tryd.ntmps9
    go_wp2_with fail
    all_goals
      go_ret2
      exact ⟨fun h => absurd h hy, fun _ => ⟨rfl, K⟩⟩

end Go.Proofs.YteifmkfkekglpaaDoor

namespace Go.Proofs.YteifmkfkekglpaaDoor
open Go.RowKit

theorem jstr_cut (s : List UInt8) {i n j : Nat} (hj : i + n = j) (h : j ≤ s.length) (W : World) : (Instr.slice 9 (.string ⟨s.toArray⟩) (some (.int .i64 (i : Int))) (some (.int .i64 (j : Int))) none).run Tryd.prog W = .ok (.string ⟨((s.drop i).take n).toArray⟩) W := by
  subst hj
  rw [run_slice_string W 9 ⟨s.toArray⟩ .i64 .i64 i ((i + n : Nat) : Int) Tryd.underlying9 (by omega) (by omega) (by show ((i + n : Nat) : Int) ≤ s.length; omega), Int.toNat_natCast, Int.toNat_natCast, extract_eq]

def fI (bs : List UInt8) (k : Nat) : Nat × Nat := ((decI (bs.drop k)).1, (decI (bs.drop k)).2.2)
def fT (bs : List UInt8) (k : Nat) : Nat × Nat := ((decText 4194304 (bs.drop k)).1, (decText 4194304 (bs.drop k)).2.2)
/-- What the document's reader read, and what stands in the bytes. -/
theorem parse_read {bs : List UInt8} {z1 z2 : Int} {z3 : List UInt8} (h1 : ∀ k, (some 0 : Option Nat) = some k → z1 = (decI (bs.drop k)).2.1) (h2 : ∀ k, nextR (some 0) (fI bs) = some k → z2 = (decI (bs.drop k)).2.1)
    (h3 : ∀ k, nextR (nextR (some 0) (fI bs)) (fI bs) = some k → z3 = (decText 4194304 (bs.drop k)).2.1) :
    (nextR (nextR (nextR (some 0) (fI bs)) (fI bs)) (fT bs) = none ∧ parseE bs = none) ∨
    (∃ k, nextR (nextR (nextR (some 0) (fI bs)) (fI bs)) (fT bs) = some k ∧ parseE bs = some ⟨z1, z2, z3⟩ ∧ encE ⟨z1, z2, z3⟩ = bs.take k) := by
  have e1 := h1 0 rfl
  have c1 := canonI bs
  unfold parseE
  unfold nextR fI fT at *
  simp only [Option.bind_some, List.drop_zero, Nat.zero_add] at *
  by_cases a1 : (decI bs).1 = 0
  · rw [if_pos a1] at h2 h3 ⊢
    simp only [Option.bind_some] at h2 h3 ⊢
    have e2 := h2 _ rfl
    have c2 := canonI (bs.drop (decI bs).2.2)
    by_cases a2 : (decI (bs.drop (decI bs).2.2)).1 = 0
    · rw [if_pos a2] at h3 ⊢
      simp only [Option.bind_some] at h3 ⊢
      have e3 := h3 _ rfl
      have c3 := canonS 4194304 (bs.drop ((decI bs).2.2 + (decI (bs.drop (decI bs).2.2)).2.2))
      by_cases a3 : (decText 4194304 (bs.drop ((decI bs).2.2 + (decI (bs.drop (decI bs).2.2)).2.2))).1 = 0
      · refine .inr ⟨_, if_pos a3, ?_, ?_⟩
        · rw [if_pos ⟨a1, a2, a3⟩, e1, e2, e3]
        · have r1 : encI z1 = bs.take (decI bs).2.2 := by
            rcases c1 with ⟨h, _⟩ | ⟨_, _, _, h⟩
            · exact absurd a1 h
            · rw [e1]; exact h
          have r2 : encI z2 = (bs.drop (decI bs).2.2).take (decI (bs.drop (decI bs).2.2)).2.2 := by
            rcases c2 with ⟨h, _⟩ | ⟨_, _, _, h⟩
            · exact absurd a2 h
            · rw [e2]; exact h
          have r3 : encS z3 = (bs.drop ((decI bs).2.2 + (decI (bs.drop (decI bs).2.2)).2.2)).take (decText 4194304 (bs.drop ((decI bs).2.2 + (decI (bs.drop (decI bs).2.2)).2.2))).2.2 := by
            rcases c3 with ⟨h, _⟩ | ⟨_, _, _, h⟩
            · exact absurd a3 h
            · rw [e3]; exact h
          unfold encE
          simp only
          rw [r1, r2, r3, ← List.take_add, ← List.take_add]
      · refine .inl ⟨if_neg a3, if_neg fun h => a3 h.2.2⟩
    · rw [if_neg a2]
      exact .inl ⟨rfl, if_neg fun h => a2 h.2.1⟩
  · rw [if_neg a1]
    exact .inl ⟨rfl, if_neg fun h => a1 h.1⟩

theorem r_end {w : World} {x : Nat} {bs : List UInt8} {st : Option Nat} (h : Rs w x bs st) :
    Calls Tryd.prog 41 #[.pointer (some ⟨x, 0, none⟩)] w fun e w' => e = .returned (.tuple #[]) ∧ Keeps (fun i => i = x) w w' ∧ ∃ k c a : Int, RefR w' x bs k c a ∧ (c = 0 ↔ st = some bs.length) := by
  rcases h with ⟨k, rfl, hk, hR⟩ | ⟨rfl, k, c, a, hc, hR⟩
  · refine (ref_end hR).mono fun e w' ⟨he, hR', k'⟩ => ⟨he, k', _, _, _, hR', ?_⟩
    unfold endOf
    by_cases hlt : k < bs.length
    · rw [if_pos hlt]
      exact ⟨fun h => by omega, fun h => by have := Option.some.inj h; omega⟩
    · rw [if_neg hlt]
      exact ⟨fun _ => by congr 1; omega, fun _ => rfl⟩
  · have hc2 : (c == 0) = false := by rw [beq_eq_false_iff_ne]; simpa using hc
    have g2 := hR.c2
    go_enter Tryd.func41, Tryd.ntmps41
    go_wp2_with fail
    go_quiet (fail)
    go_wp2_with fail
    refine bodyPost_end (results_none rfl _ _ _) rfl ?_
    exact ⟨rfl, (Keeps.refl _ _).drewN _, _, _, _, hR, fun h => by subst h; simp at hc, fun h => by cases h⟩

attribute [local go_sem ↓] exec_store_ent exec_mid_ent
attribute [local go_sem] rowOk_new World.setRow_alloc_new aggOk_ent mid_new

set_option maxRecDepth 100000 in
set_option maxHeartbeats 4000000 in
theorem rscan_any (w : World) (b : List UInt8) (hl : b.length ≤ 5000) :
    Calls Tryd.prog 12 #[.string ⟨b.toArray⟩] w (ScanPost w b) := by
  have hend : ∀ (L : List EntT) (o : Option Addr) (cap at' : Nat) (W : World), scanE b = (L ++ (scanE (b.drop at')).1, at' + (scanE (b.drop at')).2) → stepE (b.drop at') = none → OwnC W 23 3 o cap (L.map EntT.cells) → Keeps Nothing w W → (∀ g, blockOf o = some g → w.heap.size ≤ g) →
      ScanPost w b (.returned (.tuple #[.slice o L.length cap, .int .i64 at'])) W := fun L o cap at' W he hs ho hk hf => by
    rw [scanE_none hs, List.append_nil, Nat.add_zero] at he
    unfold ScanPost
    rw [he]
    exact ⟨o, cap, rfl, ho, hk, hf⟩
  have HEND := shut hend
  obtain ⟨n, hn⟩ : ∃ n, b.length = n := ⟨_, rfl⟩
  have hsz : (⟨b.toArray⟩ : ByteArray).size = n := hn
  rw [hn] at hl
  have HN := shut hn
  clear hn hend
  go_enter Tryd.func12, Tryd.ntmps12
  go_wp2_with fail
  go_loopw [4, 5] (fun s4 s5 wx => ∃ (L : List EntT) (o : Option Addr) (cap q : Nat), s4 = .slice o L.length cap ∧ s5 = .int .i64 q ∧ q ≤ n ∧ L.length ≤ q ∧ OwnC wx 23 3 o cap (L.map EntT.cells) ∧ Keeps Nothing w wx ∧ Shut (∀ g, blockOf o = some g → w.heap.size ≤ g) ∧
    Shut (scanE b = (L ++ (scanE (b.drop q)).1, q + (scanE (b.drop q)).2))) (fun _ s5 _ => n - (intOf s5).toNat)
  case atStart =>
    refine ⟨[], none, 0, 0, rfl, rfl, Nat.zero_le _, Nat.le_refl _, ownC_nil _ _ _, Keeps.refl _ _, shut (fun g hg => by simp [blockOf] at hg), shut ?_⟩
    rw [List.drop_zero, List.nil_append, Nat.zero_add]
  case round =>
    obtain ⟨L, o, cap, q, rfl, rfl, hq, hLq, HO, K, HF, HS⟩ := hrel
    by_cases h12 : q + 12 ≤ n
    · skip
      have hg : ∀ j, j < 4 → ∃ x : UInt8, (b.drop q).getD j 0 = x ∧ ∀ W, (Instr.index 9 (.string ⟨b.toArray⟩) (.int .i64 ((q : Int) + (j : Int)))).run Tryd.prog W = .ok (.int .u8 (x.toNat : Int)) W := fun j hj => by
        have hlt : q + j < b.length := by rw [HN.out]; omega
        refine ⟨b[q + j], by simp [List.getD, hlt], fun W => ?_⟩
        exact text_at b (List.getElem?_eq_getElem hlt) .i64 W
      obtain ⟨x0, y0, c0'⟩ := hg 0 (by omega)
      obtain ⟨x1, y1, c1'⟩ := hg 1 (by omega)
      obtain ⟨x2, y2, c2'⟩ := hg 2 (by omega)
      obtain ⟨x3, y3, c3'⟩ := hg 3 (by omega)
      have c0 : ∀ W, (Instr.index 9 (.string ⟨b.toArray⟩) (.int .i64 (q : Int))).run Tryd.prog W = .ok (.int .u8 (x0.toNat : Int)) W := fun W => by have := c0' W; rwa [Int.natCast_zero, Int.add_zero] at this
      have c1 : ∀ W, (Instr.index 9 (.string ⟨b.toArray⟩) (.int .i64 ((q : Int) + 1))).run Tryd.prog W = .ok (.int .u8 (x1.toNat : Int)) W := c1'
      have c2 : ∀ W, (Instr.index 9 (.string ⟨b.toArray⟩) (.int .i64 ((q : Int) + 2))).run Tryd.prog W = .ok (.int .u8 (x2.toNat : Int)) W := c2'
      have c3 : ∀ W, (Instr.index 9 (.string ⟨b.toArray⟩) (.int .i64 ((q : Int) + 3))).run Tryd.prog W = .ok (.int .u8 (x3.toNat : Int)) W := c3'
      have HB4 : Shut (big4 (b.drop q) = 16777216 * x0.toNat + 65536 * x1.toNat + 256 * x2.toNat + x3.toNat) := shut (by unfold big4; rw [y0, y1, y2, y3])
      clear y0 y1 y2 y3 hg c0' c1' c2' c3'
      have e1 : IntKind.i64.wrap ((q : Int) + 1) = (q : Int) + 1 := by rw [IntKind.wrap_i64]; omega
      have e2 : IntKind.i64.wrap ((q : Int) + 2) = (q : Int) + 2 := by rw [IntKind.wrap_i64]; omega
      have e3 : IntKind.i64.wrap ((q : Int) + 3) = (q : Int) + 3 := by rw [IntKind.wrap_i64]; omega
      have hge : (12 : Int) ≤ (n : Int) - q := by omega
      go_wp2_with fail
      go_still_tail 25, (by kernel_rfl)
      rw [big_bits x0 x1 x2 x3]
      change wpList _ _ _ _ _ wr.drew
      have hNlt : 16777216 * x0.toNat + 65536 * x1.toNat + 256 * x2.toNat + x3.toNat < 4294967296 := by
        have := x0.toNat_lt; have := x1.toNat_lt; have := x2.toNat_lt; have := x3.toNat_lt; omega
      generalize 16777216 * x0.toNat + 65536 * x1.toNat + 256 * x2.toNat + x3.toNat = N at *
      have kd : Keeps Nothing wr wr.drew := (Keeps.refl Nothing wr).drew
      have KV := K.trans kd (fun _ h _ => h)
      have HOV := HO.keepsN kd
      clear K kd HO c0 c1 c2 c3 e1 e2 e3
      generalize wr.drew = V at *
      by_cases hfit : q + 12 + N ≤ n
      · have HDD : Shut ((b.drop q).drop 12 = b.drop (q + 12)) := shut (by rw [List.drop_drop])
        have hcut := fun W => jstr_cut b (i := q + 12) (n := N) (j := q + 12 + N) rfl (by rw [HN.out]; exact hfit) W
        have hcut2 := fun W => jstr_cut b (i := q) (n := 12 + N) (j := q + 12 + N) (by omega) (by rw [HN.out]; exact hfit) W
        obtain ⟨BD, hBD⟩ : ∃ BD, (b.drop (q + 12)).take N = BD := ⟨_, rfl⟩
        obtain ⟨FR, hFR⟩ : ∃ FR, (b.drop q).take (12 + N) = FR := ⟨_, rfl⟩
        rw [hBD] at hcut
        rw [hFR] at hcut2
        have hBl : BD.length = N := by rw [← hBD, List.length_take, List.length_drop, HN.out]; omega
        have hc1 : ∀ W, (Instr.slice 9 (.string ⟨b.toArray⟩) (some (.int .i64 ((q : Int) + 12))) (some (.int .i64 ((q : Int) + 12 + (N : Int)))) none).run Tryd.prog W = .ok (.string ⟨BD.toArray⟩) W := hcut
        have hc2 : ∀ W, (Instr.slice 9 (.string ⟨b.toArray⟩) (some (.int .i64 (q : Int))) (some (.int .i64 ((q : Int) + 12 + (N : Int)))) none).run Tryd.prog W = .ok (.string ⟨FR.toArray⟩) W := hcut2
        have HBD := shut hBD
        have HFR := shut hFR
        have HBL := shut hBl
        have hng : ¬ (n : Int) - q - 12 < (N : Int) := by omega
        clear hcut hcut2 hBD hFR hBl
        go_wp2_with fail
        have k2 : Keeps Nothing V ((V.alloc (.cells #[.string ⟨BD.toArray⟩, .int .i64 0, .int .i64 0, .int .i64 0] 77)).alloc (.cells #[.int .i64 0, .int .i64 0, .string ⟨#[]⟩] 23)) := ((Keeps.refl Nothing V).alloc _).alloc _
        have BR : RefR ((V.alloc (.cells #[.string ⟨BD.toArray⟩, .int .i64 0, .int .i64 0, .int .i64 0] 77)).alloc (.cells #[.int .i64 0, .int .i64 0, .string ⟨#[]⟩] 23)) V.heap.size BD 0 0 0 := blk_alloc (blk_new V _ _) _
        have BE := blk_new (V.alloc (.cells #[.string ⟨BD.toArray⟩, .int .i64 0, .int .i64 0, .int .i64 0] 77)) #[.int .i64 0, .int .i64 0, .string ⟨#[]⟩] 23
        have KW := KV.trans k2 (fun _ h _ => h)
        have HOW := HOV.keepsN k2
        have hr : w.heap.size ≤ V.heap.size := KV.size
        have hor : ∀ g, blockOf o = some g → g < V.heap.size := fun g hg => OwnC.lt HOV hg
        rw [show (V.alloc (.cells #[.string ⟨BD.toArray⟩, .int .i64 0, .int .i64 0, .int .i64 0] 77)).heap.size = V.heap.size + 1 from World.size_alloc ..] at BE
        clear k2 KV HOV
        generalize (V.alloc (.cells #[.string ⟨BD.toArray⟩, .int .i64 0, .int .i64 0, .int .i64 0] 77)).alloc (.cells #[.int .i64 0, .int .i64 0, .string ⟨#[]⟩] 23) = V2 at *
        generalize V.heap.size = r at *
        have S0 : Rs V2 r BD (some 0) := .inl ⟨0, rfl, Nat.zero_le _, BR⟩
        have hBm : BD.length ≤ 1000000 := by rw [HBL.out]; omega
        have HOR := shut hor
        clear BR hor
        refine (r_int S0 hBm).mono ?_
        rintro e V3 ⟨z1, rfl, z1a, z1b, S1, k1, hz1⟩
        have B1 := k1.blk BE (fun h => by omega)
        have K1 := KW.trans k1 (fun i h hlt => by subst h; omega)
        have O1 := OwnC.keeps HOW k1 (fun g hg h => by subst h; have := HOR.out _ hg; omega)
        have f0 := blk_free B1 0
        have d0 : V3.cell? ⟨r + 1, 0, none⟩ = some (.int .i64 0) := blk_cell B1 0 rfl
        have HZ1 := shut hz1
        clear S0 BE KW HOW k1 hz1
        go_wp2_with fail
        have B1' : Blk (V3.setCell ⟨r + 1, 0, none⟩ (.int .i64 z1)) (r + 1) #[.int .i64 z1, .int .i64 0, .string ⟨#[]⟩] 23 := blk_set B1 0 _
        have ks1 : Keeps (fun i => i = r + 1) V3 (V3.setCell ⟨r + 1, 0, none⟩ (.int .i64 z1)) := (Keeps.refl (fun i => i = r + 1) V3).setCell (fun _ => rfl) _
        have S1' := S1.keeps ks1 (fun h => by omega)
        have K1' := K1.trans ks1 (fun i h hlt => by subst h; omega)
        have O1' := OwnC.keeps O1 ks1 (fun g hg h => by subst h; have := HOR.out _ hg; omega)
        clear f0 d0 B1 ks1 S1 K1 O1
        generalize V3.setCell ⟨r + 1, 0, none⟩ (.int .i64 z1) = V4 at *
        refine (r_int S1' hBm).mono ?_
        rintro e V5 ⟨z2, rfl, z2a, z2b, S2, k2, hz2⟩
        have B2 := k2.blk B1' (fun h => by omega)
        have K2 := K1'.trans k2 (fun i h hlt => by subst h; omega)
        have O2 := OwnC.keeps O1' k2 (fun g hg h => by subst h; have := HOR.out _ hg; omega)
        have f1 := blk_free B2 1
        have d1 : V5.cell? ⟨r + 1, 1, none⟩ = some (.int .i64 0) := blk_cell B2 1 rfl
        have HZ2 := shut hz2
        clear S1' B1' K1' O1' k2 hz2
        go_wp2_with fail
        have B2' : Blk (V5.setCell ⟨r + 1, 1, none⟩ (.int .i64 z2)) (r + 1) #[.int .i64 z1, .int .i64 z2, .string ⟨#[]⟩] 23 := blk_set B2 1 _
        have ks2 : Keeps (fun i => i = r + 1) V5 (V5.setCell ⟨r + 1, 1, none⟩ (.int .i64 z2)) := (Keeps.refl (fun i => i = r + 1) V5).setCell (fun _ => rfl) _
        have S2' := S2.keeps ks2 (fun h => by omega)
        have K2' := K2.trans ks2 (fun i h hlt => by subst h; omega)
        have O2' := OwnC.keeps O2 ks2 (fun g hg h => by subst h; have := HOR.out _ hg; omega)
        clear f1 d1 B2 ks2 S2 K2 O2
        generalize V5.setCell ⟨r + 1, 1, none⟩ (.int .i64 z2) = V6 at *
        refine (r_text S2' hBm 4194304 (by omega)).mono ?_
        rintro e V7 ⟨z3, rfl, hz3l, S3, k3, hz3⟩
        have B3 := k3.blk B2' (fun h => by omega)
        have K3 := K2'.trans k3 (fun i h hlt => by subst h; omega)
        have O3 := OwnC.keeps O2' k3 (fun g hg h => by subst h; have := HOR.out _ hg; omega)
        have f2 := blk_free B3 2
        have d2 : V7.cell? ⟨r + 1, 2, none⟩ = some (.string ⟨#[]⟩) := blk_cell B3 2 rfl
        have hpr := shut (parse_read HZ1.out HZ2.out hz3)
        clear S2' B2' K2' O2' k3 hz3 HZ1 HZ2
        go_wp2_with fail
        have B3' : Blk (V7.setCell ⟨r + 1, 2, none⟩ (.string ⟨z3.toArray⟩)) (r + 1) #[.int .i64 z1, .int .i64 z2, .string ⟨z3.toArray⟩] 23 := blk_set B3 2 _
        have ks3 : Keeps (fun i => i = r + 1) V7 (V7.setCell ⟨r + 1, 2, none⟩ (.string ⟨z3.toArray⟩)) := (Keeps.refl (fun i => i = r + 1) V7).setCell (fun _ => rfl) _
        have S3' := S3.keeps ks3 (fun h => by omega)
        have K3' := K3.trans ks3 (fun i h hlt => by subst h; omega)
        have O3' := OwnC.keeps O3 ks3 (fun g hg h => by subst h; have := HOR.out _ hg; omega)
        clear f2 d2 B3 ks3 S3 K3 O3
        generalize V7.setCell ⟨r + 1, 2, none⟩ (.string ⟨z3.toArray⟩) = V8 at *
        refine (r_end S3').mono ?_
        rintro e V9 ⟨rfl, k4, rk, rc, ra, R4, hrc⟩
        have B4 := k4.blk B3' (fun h => by omega)
        have K4 := K3'.trans k4 (fun i h hlt => by subst h; omega)
        have O4 := OwnC.keeps O3' k4 (fun g hg h => by subst h; have := HOR.out _ hg; omega)
        have HRC := shut hrc
        have hS3 : ∀ k, nextR (nextR (nextR (some 0) (fI BD)) (fI BD)) (fT BD) = some k → k ≤ BD.length := fun k hk => by
          rcases S3' with ⟨j, h1, h2, _⟩ | ⟨h1, _⟩
          · have h3 := h1.symm.trans hk
            obtain rfl := Option.some.inj h3
            exact h2
          · have h3 := h1.symm.trans hk
            cases h3
        have HS3 := shut hS3
        clear hS3
        clear S3' B3' K3' O3' k4 hrc
        have hfr := rframe_any V9 ⟨z1, z2, z3⟩ ⟨z1a, z1b, z2a, z2b⟩ (by show z3.length ≤ 5000; rw [HBL.out] at hz3l; omega)
        have hfr2 : Calls Tryd.prog 9 #[.agg #[.int .i64 z1, .int .i64 z2, .string ⟨z3.toArray⟩]] V9 _ := hfr
        obtain ⟨x1, x2⟩ := jblk_mid B4 (n := 3) rfl
        clear hfr
        go_wp2_with fail
        refine hfr2.mono ?_
        rintro e Va hp
        clear hfr2 x1 x2
        have hcases : (rc ≠ 0 ∧ stepE (b.drop q) = none) ∨ (rc = 0 ∧ ¬ frameP ⟨z1, z2, z3⟩ ∧ stepE (b.drop q) = none) ∨ (rc = 0 ∧ frameP ⟨z1, z2, z3⟩ ∧ frameE ⟨z1, z2, z3⟩ ≠ FR ∧ stepE (b.drop q) = none) ∨ (rc = 0 ∧ frameP ⟨z1, z2, z3⟩ ∧ frameE ⟨z1, z2, z3⟩ = FR ∧ stepE (b.drop q) = some ⟨z1, z2, z3⟩) := by
          have hbo : parseE ((b.drop q).drop 12 |>.take (big4 (b.drop q))) = parseE BD := by rw [HB4.out, HDD.out, HBD.out]
          have hfo : (b.drop q).take (12 + big4 (b.drop q)) = FR := by rw [HB4.out, HFR.out]
          have hle : 12 + big4 (b.drop q) ≤ (b.drop q).length := by rw [HB4.out, List.length_drop, HN.out]; omega
          rcases hpr.out with ⟨hs, hp⟩ | ⟨k, hs, hp, henc⟩
          · refine .inl ⟨fun h => ?_, stepE_no (by rw [hbo]; exact hp)⟩
            have := HRC.out.1 h
            rw [show nextR (nextR (nextR (some 0) (fI BD)) (fI BD)) (fT BD) = some BD.length from this] at hs
            cases hs
          · by_cases hk : rc = 0
            · by_cases hP : frameP ⟨z1, z2, z3⟩
              · by_cases hF : frameE ⟨z1, z2, z3⟩ = FR
                · exact .inr (.inr (.inr ⟨hk, hP, hF, stepE_yes hle (by rw [hbo]; exact hp) ⟨hP, by rw [hfo]; exact hF⟩⟩))
                · exact .inr (.inr (.inl ⟨hk, hP, hF, stepE_bad (by rw [hbo]; exact hp) (fun h => hF (by rw [← hfo]; exact h.2))⟩))
              · exact .inr (.inl ⟨hk, hP, stepE_bad (by rw [hbo]; exact hp) (fun h => hP h.1)⟩)
            · refine .inl ⟨hk, stepE_bad (by rw [hbo]; exact hp) (fun h => hk (HRC.out.2 ?_))⟩
              show nextR (nextR (nextR (some 0) (fI BD)) (fI BD)) (fT BD) = _
              rw [hs]
              congr 1
              have h1 := congrArg List.length h.2
              rw [hfo, frameE_len, henc, ← HFR.out, List.length_take, List.length_take, List.length_drop, HN.out, HBL.out] at h1
              have h2 := HS3.out k hs
              rw [HBL.out] at h2 ⊢
              omega
        clear hpr HRC HS3
        rcases hcases with ⟨hrc, hst⟩ | ⟨rfl, hP, hst⟩ | ⟨rfl, hP, hF, hst⟩ | ⟨rfl, hP, hF, hst⟩
        · have HST := shut hst
          have hb : (rc != 0) = true := by simpa using hrc
          clear hst HB4 HDD HBD HBL
          by_cases hP : frameP ⟨z1, z2, z3⟩
          · obtain ⟨rfl, k5⟩ := hp.1 hP
            have c25 := RefR.c2 (k5.blk R4 (fun h => h) : RefR Va r BD rk rc ra)
            generalize (frameE ⟨z1, z2, z3⟩) = FE at *
            clear hp
            go_wp2_with fail
            go_ret2
            exact HEND.out L o cap q _ HS.out HST.out (OwnC.keepsN O4 k5) (K4.trans k5 (fun _ h _ => h)) HF.out
          · obtain ⟨rfl, k5⟩ := hp.2 hP
            have c25 := RefR.c2 (k5.blk R4 (fun h => h) : RefR Va r BD rk rc ra)
            clear hp
            go_wp2_with fail
            go_ret2
            exact HEND.out L o cap q _ HS.out HST.out (OwnC.keepsN O4 k5) (K4.trans k5 (fun _ h _ => h)) HF.out
        · have HST := shut hst
          clear hst HB4 HDD HBD HBL
          obtain ⟨rfl, k5⟩ := hp.2 hP
          have c25 := RefR.c2 (k5.blk R4 (fun h => h) : RefR Va r BD rk 0 ra)
          clear hp
          go_wp2_with fail
          go_ret2
          exact HEND.out L o cap q _ HS.out HST.out (OwnC.keepsN O4 k5) (K4.trans k5 (fun _ h _ => h)) HF.out
        · have HST := shut hst
          clear hst HB4 HDD HBD HBL
          obtain ⟨rfl, k5⟩ := hp.1 hP
          have c25 := RefR.c2 (k5.blk R4 (fun h => h) : RefR Va r BD rk 0 ra)
          generalize (frameE ⟨z1, z2, z3⟩) = FE at *
          have hne : (FE == FR) = false := by rw [beq_eq_false_iff_ne]; exact hF
          clear hp hF
          go_wp2_with fail
          go_ret2
          exact HEND.out L o cap q _ HS.out HST.out (OwnC.keepsN O4 k5) (K4.trans k5 (fun _ h _ => h)) HF.out
        · have HST := shut hst
          clear hst
          obtain ⟨rfl, k5⟩ := hp.1 hP
          have c25 := RefR.c2 (k5.blk R4 (fun h => h) : RefR Va r BD rk 0 ra)
          rw [hF]
          have hne : (FR == FR) = true := beq_self_eq_true _
          have HS2 : Shut (scanE b = ((L ++ [⟨z1, z2, z3⟩]) ++ (scanE (b.drop (q + 12 + N))).1, q + 12 + N + (scanE (b.drop (q + 12 + N))).2)) := shut (by
            have h1 := HS.out
            rw [scanE_some HST.out, List.drop_drop] at h1
            have h2 : lenE (b.drop q) = 12 + N := by unfold lenE; rw [HB4.out]
            rw [h2, ← Nat.add_assoc] at h1
            rw [h1]
            simp [Nat.add_assoc])
          have B5 := k5.blk B4 (fun h => h)
          have K5 := K4.trans k5 (fun _ h _ => h)
          have O5 := OwnC.keepsN O4 k5
          obtain ⟨x1, x2⟩ := jblk_mid B5 (n := 3) rfl
          clear hp hF HST HS HB4 HDD HBD HBL B4 K4 O4 k5 R4 HFR
          have ka2 : Keeps Nothing Va (Va.alloc (.cells #[.int .i64 z1, .int .i64 z2, .string ⟨z3.toArray⟩] 23)) := (Keeps.refl Nothing Va).alloc _
          have BD2 := blk_new Va #[.int .i64 z1, .int .i64 z2, .string ⟨z3.toArray⟩] 23
          go_wp2_with (at_builtin; refine wpList_appE _ rfl (.tmp 94) (.tmp 96) rfl o cap L L.length rfl rfl (OwnC.keepsN O5 ka2) Va.heap.size _ ⟨z1, z2, z3⟩ rfl rfl BD2 (by omega) ?_)
          intro o5 c5 w5 HO5 k5 m5
          have K6 : Keeps Nothing w w5 := (K5.trans ka2 (fun _ h _ => h)).trans k5 (fun i hi hlt => by have := HF.out i hi; omega)
          have HF5 := shut (m5.new (by have := K5.size; omega) HF.out)
          clear k5 m5 BD2 ka2 O5 K5 B5 x1 x2
          go_wp2_with fail
          go_roundw
          case rel => exact ⟨L ++ [⟨z1, z2, z3⟩], o5, c5, q + 12 + N, by simp, by go_num, by omega, by simp; omega, by rw [List.map_append]; exact HO5, K6, HF5, HS2⟩
          case measure => simp [intOf]; omega
      · have hst : Shut (stepE (b.drop q) = none) := shut (stepE_short (by rw [List.length_drop, HN.out, HB4.out]; omega))
        have hng : (n : Int) - q - 12 < (N : Int) := by omega
        go_wp2_with fail
        go_ret2
        exact HEND.out L o cap q V HS.out hst.out HOV KV HF.out
    · have hst : Shut (stepE (b.drop q) = none) := shut (stepE_short (by rw [List.length_drop, HN.out]; omega))
      have hlt : ¬ (12 : Int) ≤ (n : Int) - q := by omega
      go_wp2_with fail
      go_ret2
      exact HEND.out L o cap q wr HS.out hst.out HO K HF.out

end Go.Proofs.YteifmkfkekglpaaDoor
