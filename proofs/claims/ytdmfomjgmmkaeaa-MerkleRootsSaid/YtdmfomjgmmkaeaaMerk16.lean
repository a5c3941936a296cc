/- The document's leaf, half, pair, top. -/
import Derived.Test.YtdmfomjgmmkaeaaMerk15
namespace Go.Proofs.Ytdmfomjgmmkaeaa
open Go.RowKit

set_option maxHeartbeats 400000 in
theorem rleaf_any {w : World} {ao : Option Addr} {n : Nat} (c : Nat) {bs : List UInt8} (hn : bs.length = n) (h : BytesAt w ao bs) (hl : n ≤ 1000000) :
    Calls Try.prog 57 #[.slice ao n c] w (NewBytes w (leafB bs)) := by
  have h' : BytesAt (w.alloc (.cells #[.int .u8 0] 5)) ao bs := h.keeps ((Keeps.refl Nothing w).alloc _) (fun _ _ h => h)
  have hs := src_at c h'
  rw [hn] at hs
  have HN := shut hn
  go_enter Try.func57, Try.ntmps57
  go_wp2_with (at_builtin; refine wpList_app8 _ rfl (.tmp 3) (.tmp 4) 22 rfl (some ⟨w.heap.size, 0, none⟩) 1 [0] rfl (own8_one w 0 rfl) _ rfl bs (by rw [HN.out]; exact hs) (by simp) (by omega) ?_)
  intro ao1 cap1 w1 ho1 hk1 hm1
  go_wp2_with fail
  go_ret
  have K1 : Keeps Nothing w w1 := ((Keeps.refl Nothing w).alloc _).trans hk1 (fun i hi hlt => by simp [blockOf] at hi; omega)
  refine ⟨ao1, cap1, by rw [show (leafB bs).length = n + 1 from by simp [leafB, hn]]; rfl, ho1, K1, ?_⟩
  intro g hg
  rcases hm1 with h | ⟨g', h, hg'⟩
  · rw [h] at hg; simp [blockOf] at hg; omega
  · rw [h] at hg; obtain rfl := Option.some.inj hg; first | omega | (simp only [World.size_alloc] at hg'; omega)

set_option maxHeartbeats 400000 in
theorem rhalf_any (w : World) (n : Nat) (h2 : 2 ≤ n) (hn : n < 9223372036854775808) : Calls Try.prog 49 #[.int .i64 (n : Int)] w fun e w' => e = .returned (.int .i64 (splitN n : Int)) ∧ w' = w := by
  obtain ⟨R, hR⟩ : ∃ R, splitN n = R := ⟨_, rfl⟩
  rw [hR]
  have HR := shut hR
  clear hR
  go_enter Try.func49, Try.ntmps49
  go_wp2_with fail
  go_loopw [3] (fun s3 wx => ∃ k : Nat, s3 = .int .i64 k ∧ 0 < k ∧ k < n ∧ Shut (splitF n n k = R) ∧ wx = w) (fun s3 _ => n - (intOf s3).toNat)
  case atStart => exact ⟨1, rfl, by decide, by omega, shut HR.out, rfl⟩
  case round =>
    obtain ⟨k, rfl, hk0, hk, HK, hww⟩ := hrel
    subst wr
    by_cases h3 : k < n - k
    · have m1 : (k : Int) < (n : Int) - k := by omega
      have HK2 : Shut (splitF n n (k * 2) = R) := shut (by
        rw [← HK.out]
        obtain ⟨f, hf⟩ : ∃ f, n = f + 1 := ⟨n - 1, by omega⟩
        have h4 : splitF n (f + 1) k = splitF n f (k * 2) := splitF_step h3
        rw [splitF_more n n (f + 1) k hk0 (by omega) (by omega), h4]
        exact splitF_more n n f (k * 2) (by omega) (by omega) (by omega))
      go_wp2_with fail
      go_roundw
      case rel => exact ⟨k * 2, by go_num, by omega, by omega, HK2, by first | rfl | trivial⟩
      case measure => simp [intOf]; omega
    · have m1 : ¬ (k : Int) < (n : Int) - k := by omega
      have HF : Shut (k = R) := shut (by rw [← HK.out, splitF_stop h3])
      go_wp2_with fail
      go_ret
      exact ⟨by rw [← HF.out]; rfl, rfl⟩

theorem get_byte {l : List UInt8} {L : Array Value} (eL : L = (l.map byteV).toArray) {i : Nat} {c : UInt8} (h : l[i]? = some c) : L[i]? = some (.int .u8 (c.toNat : Int)) := by
  subst eL
  simp [h, byteV]
theorem take_add {l : List UInt8} {i : Nat} {c : UInt8} (h : l[i]? = some c) : l.take (i + 1) = l.take i ++ [c] := by
  rw [List.take_add_one, h]; rfl

set_option maxRecDepth 100000 in
set_option maxHeartbeats 1000000 in
theorem rpair_any (w : World) {l r : List UInt8} (hl : l.length = 32) (hr : r.length = 32) {L R : Array Value} (eL : L = (l.map byteV).toArray) (eR : R = (r.map byteV).toArray) :
    Calls Try.prog 58 #[.agg L, .agg R] w (NewBytes w (nodeB l r)) := by
  have HL := shut eL
  have HR := shut eR
  have hLs : L.size = 32 := by rw [eL]; simp [hl]
  have hRs : R.size = 32 := by rw [eR]; simp [hr]
  have hLa : aggOk 32 (.agg L) = true := by rw [eL]; exact aggOk_agg 32 _ (by simp [hl]) (bytes_all l)
  have hRa : aggOk 32 (.agg R) = true := by rw [eR]; exact aggOk_agg 32 _ (by simp [hr]) (bytes_all r)
  clear eL eR
  have BL0 := blk_alloc (blk_new w L 25) (.cells R 25)
  have BR0 := blk_new (w.alloc (.cells L 25)) R 25
  rw [World.size_alloc] at BR0
  have K0 := ((Keeps.refl Nothing w).alloc (.cells L 25)).alloc (.cells R 25)
  have hs0 : ((w.alloc (.cells L 25)).alloc (.cells R 25)).heap.size = w.heap.size + 1 + 1 := by rw [World.size_alloc, World.size_alloc]
  have o0 := own8_one ((w.alloc (.cells L 25)).alloc (.cells R 25)) 1 rfl
  go_enter Try.func58, Try.ntmps58
  go_wp2_with fail
  rw [hs0] at o0
  generalize ((w.alloc (.cells L 25)).alloc (.cells R 25)) = w0 at *
  go_loopw [5, 6] (fun s5 s6 wx => ∃ (i : Nat) (ao : Option Addr) (cap : Nat) (Q : List UInt8), s5 = .slice ao Q.length cap ∧ s6 = .int .i64 i ∧ i ≤ 32 ∧ Shut (Q = [1] ++ l.take i) ∧ Shut (Q.length = 1 + i) ∧ Own8 wx 5 ao cap Q ∧ Keeps Nothing w0 wx ∧ Shut (∀ g, blockOf ao = some g → w0.heap.size ≤ g)) (fun _ s6 _ => 32 - (intOf s6).toNat)
  case atStart => exact ⟨0, some ⟨w.heap.size + 1 + 1, 0, none⟩, 1, [1], rfl, rfl, by omega, shut (by simp), shut rfl, o0, (Keeps.refl _ _).alloc _, shut (fun g hg => by simp [blockOf] at hg; omega)⟩
  case round =>
    obtain ⟨i, ao, cap, Q, rfl, rfl, hi, HQ, HLN, o, K, HF⟩ := hrel
    have hql : Q.length ≤ 100 := by rw [HLN.out]; omega
    by_cases hlt : i < 32
    · have m1 : (i : Int) < 32 := by omega
      obtain ⟨x, hx⟩ : ∃ x, l[i]? = some x := ⟨l[i]'(by omega), by rw [List.getElem?_eq_getElem (by omega)]⟩
      have e1 := blk_cell (K.blk BL0 (fun h => h)) i (get_byte HL.out hx)
      go_wp2_with (at_builtin; refine wpList_app8 _ rfl (.tmp 13) (.tmp 17) 22 rfl ao cap Q rfl (World.ownsRow.alloc o _) _ rfl [x] (src_new wr _ rfl) (by omega) (by simp) ?_)
      intro ao5 cap5 w5 o5 k5 m5
      have K5 : Keeps Nothing w0 w5 := (K.alloc _).trans k5 (fun i hi hlt => by have := HF.out i hi; omega)
      have HF5 := shut (m5.new (B := w0.heap.size) (by have := K.size; first | omega | (simp only [World.size_alloc]; omega)) HF.out)
      have HQ5 : Shut (Q ++ [x] = [1] ++ l.take (i + 1)) := shut (by rw [HQ.out, take_add hx, List.append_assoc])
      have HL5 : Shut ((Q ++ [x]).length = 1 + (i + 1)) := shut (by rw [List.length_append, HLN.out]; rfl)
      clear o k5 m5 K HF e1
      go_wp2_with fail
      go_roundw
      case rel => exact ⟨i + 1, ao5, cap5, Q ++ [x], by simp, by go_num, by omega, HQ5, HL5, o5, K5, HF5⟩
      case measure => simp [intOf]; omega
    · obtain rfl : i = 32 := by omega
      have HQ2 : Shut (Q = [1] ++ l) := shut (by rw [HQ.out, List.take_of_length_le (by omega)])
      clear HQ
      have m1 : ¬ (32 : Int) < 32 := by omega
      go_wp2_with fail
      go_loopw [5, 7] (fun s5 s6 wx => ∃ (i : Nat) (ao : Option Addr) (cap : Nat) (Q : List UInt8), s5 = .slice ao Q.length cap ∧ s6 = .int .i64 i ∧ i ≤ 32 ∧ Shut (Q = ([1] ++ l) ++ r.take i) ∧ Shut (Q.length = 33 + i) ∧ Own8 wx 5 ao cap Q ∧ Keeps Nothing w0 wx ∧ Shut (∀ g, blockOf ao = some g → w0.heap.size ≤ g)) (fun _ s6 _ => 32 - (intOf s6).toNat)
      case atStart => exact ⟨0, ao, cap, Q, rfl, rfl, by omega, shut (by rw [HQ2.out]; simp), shut (by rw [HLN.out]), o, K, HF⟩
      case round =>
        obtain ⟨i, ao, cap, Q, rfl, rfl, hi, HQ, HLN, o, K, HF⟩ := hrel
        have hql : Q.length ≤ 100 := by rw [HLN.out]; omega
        by_cases hlt : i < 32
        · have m1 : (i : Int) < 32 := by omega
          obtain ⟨x, hx⟩ : ∃ x, r[i]? = some x := ⟨r[i]'(by omega), by rw [List.getElem?_eq_getElem (by omega)]⟩
          have e1 := blk_cell (K.blk BR0 (fun h => h)) i (get_byte HR.out hx)
          go_wp2_with (at_builtin; refine wpList_app8 _ rfl (.tmp 23) (.tmp 27) 22 rfl ao cap Q rfl (World.ownsRow.alloc o _) _ rfl [x] (src_new wr _ rfl) (by omega) (by simp) ?_)
          intro ao5 cap5 w5 o5 k5 m5
          have K5 : Keeps Nothing w0 w5 := (K.alloc _).trans k5 (fun i hi hlt => by have := HF.out i hi; omega)
          have HF5 := shut (m5.new (B := w0.heap.size) (by have := K.size; first | omega | (simp only [World.size_alloc]; omega)) HF.out)
          have HQ5 : Shut (Q ++ [x] = ([1] ++ l) ++ r.take (i + 1)) := shut (by rw [HQ.out, take_add hx, List.append_assoc])
          have HL5 : Shut ((Q ++ [x]).length = 33 + (i + 1)) := shut (by rw [List.length_append, HLN.out]; rfl)
          clear o k5 m5 K HF e1
          go_wp2_with fail
          go_roundw
          case rel => exact ⟨i + 1, ao5, cap5, Q ++ [x], by simp, by go_num, by omega, HQ5, HL5, o5, K5, HF5⟩
          case measure => simp [intOf]; omega
        · obtain rfl : i = 32 := by omega
          have HQ2 : Shut (Q = ([1] ++ l) ++ r) := shut (by rw [HQ.out, List.take_of_length_le (by omega)])
          clear HQ
          have m1 : ¬ (32 : Int) < 32 := by omega
          go_wp2_with fail
          go_ret
          refine ⟨ao, cap, ?_, ?_, K0.trans K (fun _ h _ => h), fun g hg => by have := HF.out g hg; omega⟩
          · rw [show (nodeB l r).length = Q.length from by rw [HQ2.out]; rfl]; rfl
          · rw [show nodeB l r = Q from by rw [HQ2.out]; rfl]; exact o

end Go.Proofs.Ytdmfomjgmmkaeaa
