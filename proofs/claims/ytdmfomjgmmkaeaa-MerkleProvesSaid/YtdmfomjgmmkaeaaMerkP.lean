/- The document's leaf, half, pair, top. The document's top. The document's Tree and Root. The document's Path; Same of two equal proofs. The document's Same, of two equal proofs. -/
import Derived.Test.YtdmfomjgmmkaeaaMerk15
namespace Go.Proofs.Ytdmfomjgmmkaeaa
open Go.RowKit

set_option maxHeartbeats 400000 in
theorem rleaf_any {w : World} {ao : Option Addr} {n : Nat} (c : Nat) {bs : List UInt8} (hn : bs.length = n) (h : BytesAt w ao bs) (hl : n ≤ 1000000) :
    Calls Try.prog 57 #[.slice ao n c] w (NewBytes w (leafB bs)) := by
  have h' : BytesAt (w.alloc (.cells #[.int .u8 0] 5)) ao bs := h.keeps ((Keeps.refl Nothing w).alloc _) (fun _ _ h => h)
  have hs := src_at c h'
  rw [hn] at hs
  have HN := shut hn
  go_enter Try.func57, Try.ntmps57
  go_wp2_with (at_builtin; refine wpList_app8 _ rfl (.tmp 3) (.tmp 4) 22 rfl (some ⟨w.heap.size, 0, none⟩) 1 [0] rfl (own8_one w 0 rfl) _ rfl bs (by rw [HN.out]; exact hs) (by simp) (by omega) ?_)
  intro ao1 cap1 w1 ho1 hk1 hm1
  go_wp2_with fail
  go_ret
  have K1 : Keeps Nothing w w1 := ((Keeps.refl Nothing w).alloc _).trans hk1 (fun i hi hlt => by simp [blockOf] at hi; omega)
  refine ⟨ao1, cap1, by rw [show (leafB bs).length = n + 1 from by simp [leafB, hn]]; rfl, ho1, K1, ?_⟩
  intro g hg
  rcases hm1 with h | ⟨g', h, hg'⟩
  · rw [h] at hg; simp [blockOf] at hg; omega
  · rw [h] at hg; obtain rfl := Option.some.inj hg; first | omega | (simp only [World.size_alloc] at hg'; omega)

set_option maxHeartbeats 400000 in
theorem rhalf_any (w : World) (n : Nat) (h2 : 2 ≤ n) (hn : n < 9223372036854775808) : Calls Try.prog 49 #[.int .i64 (n : Int)] w fun e w' => e = .returned (.int .i64 (splitN n : Int)) ∧ w' = w := by
  obtain ⟨R, hR⟩ : ∃ R, splitN n = R := ⟨_, rfl⟩
  rw [hR]
  have HR := shut hR
  clear hR
  go_enter Try.func49, Try.ntmps49
  go_wp2_with fail
  go_loopw [3] (fun s3 wx => ∃ k : Nat, s3 = .int .i64 k ∧ 0 < k ∧ k < n ∧ Shut (splitF n n k = R) ∧ wx = w) (fun s3 _ => n - (intOf s3).toNat)
  case atStart => exact ⟨1, rfl, by decide, by omega, shut HR.out, rfl⟩
  case round =>
    obtain ⟨k, rfl, hk0, hk, HK, hww⟩ := hrel
    subst wr
    by_cases h3 : k < n - k
    · have m1 : (k : Int) < (n : Int) - k := by omega
      have HK2 : Shut (splitF n n (k * 2) = R) := shut (by
        rw [← HK.out]
        obtain ⟨f, hf⟩ : ∃ f, n = f + 1 := ⟨n - 1, by omega⟩
        have h4 : splitF n (f + 1) k = splitF n f (k * 2) := splitF_step h3
        rw [splitF_more n n (f + 1) k hk0 (by omega) (by omega), h4]
        exact splitF_more n n f (k * 2) (by omega) (by omega) (by omega))
      go_wp2_with fail
      go_roundw
      case rel => exact ⟨k * 2, by go_num, by omega, by omega, HK2, by first | rfl | trivial⟩
      case measure => simp [intOf]; omega
    · have m1 : ¬ (k : Int) < (n : Int) - k := by omega
      have HF : Shut (k = R) := shut (by rw [← HK.out, splitF_stop h3])
      go_wp2_with fail
      go_ret
      exact ⟨by rw [← HF.out]; rfl, rfl⟩

theorem get_byte {l : List UInt8} {L : Array Value} (eL : L = (l.map byteV).toArray) {i : Nat} {c : UInt8} (h : l[i]? = some c) : L[i]? = some (.int .u8 (c.toNat : Int)) := by
  subst eL
  simp [h, byteV]
theorem take_add {l : List UInt8} {i : Nat} {c : UInt8} (h : l[i]? = some c) : l.take (i + 1) = l.take i ++ [c] := by
  rw [List.take_add_one, h]; rfl

set_option maxRecDepth 100000 in
set_option maxHeartbeats 1000000 in
theorem rpair_any (w : World) {l r : List UInt8} (hl : l.length = 32) (hr : r.length = 32) {L R : Array Value} (eL : L = (l.map byteV).toArray) (eR : R = (r.map byteV).toArray) :
    Calls Try.prog 58 #[.agg L, .agg R] w (NewBytes w (nodeB l r)) := by
  have HL := shut eL
  have HR := shut eR
  have hLs : L.size = 32 := by rw [eL]; simp [hl]
  have hRs : R.size = 32 := by rw [eR]; simp [hr]
  have hLa : aggOk 32 (.agg L) = true := by rw [eL]; exact aggOk_agg 32 _ (by simp [hl]) (bytes_all l)
  have hRa : aggOk 32 (.agg R) = true := by rw [eR]; exact aggOk_agg 32 _ (by simp [hr]) (bytes_all r)
  clear eL eR
  have BL0 := blk_alloc (blk_new w L 25) (.cells R 25)
  have BR0 := blk_new (w.alloc (.cells L 25)) R 25
  rw [World.size_alloc] at BR0
  have K0 := ((Keeps.refl Nothing w).alloc (.cells L 25)).alloc (.cells R 25)
  have hs0 : ((w.alloc (.cells L 25)).alloc (.cells R 25)).heap.size = w.heap.size + 1 + 1 := by rw [World.size_alloc, World.size_alloc]
  have o0 := own8_one ((w.alloc (.cells L 25)).alloc (.cells R 25)) 1 rfl
  go_enter Try.func58, Try.ntmps58
  go_wp2_with fail
  rw [hs0] at o0
  generalize ((w.alloc (.cells L 25)).alloc (.cells R 25)) = w0 at *
  go_loopw [5, 6] (fun s5 s6 wx => ∃ (i : Nat) (ao : Option Addr) (cap : Nat) (Q : List UInt8), s5 = .slice ao Q.length cap ∧ s6 = .int .i64 i ∧ i ≤ 32 ∧ Shut (Q = [1] ++ l.take i) ∧ Shut (Q.length = 1 + i) ∧ Own8 wx 5 ao cap Q ∧ Keeps Nothing w0 wx ∧ Shut (∀ g, blockOf ao = some g → w0.heap.size ≤ g)) (fun _ s6 _ => 32 - (intOf s6).toNat)
  case atStart => exact ⟨0, some ⟨w.heap.size + 1 + 1, 0, none⟩, 1, [1], rfl, rfl, by omega, shut (by simp), shut rfl, o0, (Keeps.refl _ _).alloc _, shut (fun g hg => by simp [blockOf] at hg; omega)⟩
  case round =>
    obtain ⟨i, ao, cap, Q, rfl, rfl, hi, HQ, HLN, o, K, HF⟩ := hrel
    have hql : Q.length ≤ 100 := by rw [HLN.out]; omega
    by_cases hlt : i < 32
    · have m1 : (i : Int) < 32 := by omega
      obtain ⟨x, hx⟩ : ∃ x, l[i]? = some x := ⟨l[i]'(by omega), by rw [List.getElem?_eq_getElem (by omega)]⟩
      have e1 := blk_cell (K.blk BL0 (fun h => h)) i (get_byte HL.out hx)
      go_wp2_with (at_builtin; refine wpList_app8 _ rfl (.tmp 13) (.tmp 17) 22 rfl ao cap Q rfl (World.ownsRow.alloc o _) _ rfl [x] (src_new wr _ rfl) (by omega) (by simp) ?_)
      intro ao5 cap5 w5 o5 k5 m5
      have K5 : Keeps Nothing w0 w5 := (K.alloc _).trans k5 (fun i hi hlt => by have := HF.out i hi; omega)
      have HF5 := shut (m5.new (B := w0.heap.size) (by have := K.size; first | omega | (simp only [World.size_alloc]; omega)) HF.out)
      have HQ5 : Shut (Q ++ [x] = [1] ++ l.take (i + 1)) := shut (by rw [HQ.out, take_add hx, List.append_assoc])
      have HL5 : Shut ((Q ++ [x]).length = 1 + (i + 1)) := shut (by rw [List.length_append, HLN.out]; rfl)
      clear o k5 m5 K HF e1
      go_wp2_with fail
      go_roundw
      case rel => exact ⟨i + 1, ao5, cap5, Q ++ [x], by simp, by go_num, by omega, HQ5, HL5, o5, K5, HF5⟩
      case measure => simp [intOf]; omega
    · obtain rfl : i = 32 := by omega
      have HQ2 : Shut (Q = [1] ++ l) := shut (by rw [HQ.out, List.take_of_length_le (by omega)])
      clear HQ
      have m1 : ¬ (32 : Int) < 32 := by omega
      go_wp2_with fail
      go_loopw [5, 7] (fun s5 s6 wx => ∃ (i : Nat) (ao : Option Addr) (cap : Nat) (Q : List UInt8), s5 = .slice ao Q.length cap ∧ s6 = .int .i64 i ∧ i ≤ 32 ∧ Shut (Q = ([1] ++ l) ++ r.take i) ∧ Shut (Q.length = 33 + i) ∧ Own8 wx 5 ao cap Q ∧ Keeps Nothing w0 wx ∧ Shut (∀ g, blockOf ao = some g → w0.heap.size ≤ g)) (fun _ s6 _ => 32 - (intOf s6).toNat)
      case atStart => exact ⟨0, ao, cap, Q, rfl, rfl, by omega, shut (by rw [HQ2.out]; simp), shut (by rw [HLN.out]), o, K, HF⟩
      case round =>
        obtain ⟨i, ao, cap, Q, rfl, rfl, hi, HQ, HLN, o, K, HF⟩ := hrel
        have hql : Q.length ≤ 100 := by rw [HLN.out]; omega
        by_cases hlt : i < 32
        · have m1 : (i : Int) < 32 := by omega
          obtain ⟨x, hx⟩ : ∃ x, r[i]? = some x := ⟨r[i]'(by omega), by rw [List.getElem?_eq_getElem (by omega)]⟩
          have e1 := blk_cell (K.blk BR0 (fun h => h)) i (get_byte HR.out hx)
          go_wp2_with (at_builtin; refine wpList_app8 _ rfl (.tmp 23) (.tmp 27) 22 rfl ao cap Q rfl (World.ownsRow.alloc o _) _ rfl [x] (src_new wr _ rfl) (by omega) (by simp) ?_)
          intro ao5 cap5 w5 o5 k5 m5
          have K5 : Keeps Nothing w0 w5 := (K.alloc _).trans k5 (fun i hi hlt => by have := HF.out i hi; omega)
          have HF5 := shut (m5.new (B := w0.heap.size) (by have := K.size; first | omega | (simp only [World.size_alloc]; omega)) HF.out)
          have HQ5 : Shut (Q ++ [x] = ([1] ++ l) ++ r.take (i + 1)) := shut (by rw [HQ.out, take_add hx, List.append_assoc])
          have HL5 : Shut ((Q ++ [x]).length = 33 + (i + 1)) := shut (by rw [List.length_append, HLN.out]; rfl)
          clear o k5 m5 K HF e1
          go_wp2_with fail
          go_roundw
          case rel => exact ⟨i + 1, ao5, cap5, Q ++ [x], by simp, by go_num, by omega, HQ5, HL5, o5, K5, HF5⟩
          case measure => simp [intOf]; omega
        · obtain rfl : i = 32 := by omega
          have HQ2 : Shut (Q = ([1] ++ l) ++ r) := shut (by rw [HQ.out, List.take_of_length_le (by omega)])
          clear HQ
          have m1 : ¬ (32 : Int) < 32 := by omega
          go_wp2_with fail
          go_ret
          refine ⟨ao, cap, ?_, ?_, K0.trans K (fun _ h _ => h), fun g hg => by have := HF.out g hg; omega⟩
          · rw [show (nodeB l r).length = Q.length from by rw [HQ2.out]; rfl]; rfl
          · rw [show nodeB l r = Q from by rw [HQ2.out]; rfl]; exact o

end Go.Proofs.Ytdmfomjgmmkaeaa

namespace Go.Proofs.Ytdmfomjgmmkaeaa
open Go.RowKit

set_option maxRecDepth 100000 in
set_option maxHeartbeats 1000000 in
theorem rtop_any (w : World) (n : Nat) (hn : n < 9223372036854775808) {l : List UInt8} (hl : l.length = 32) {L : Array Value} (eL : L = (l.map byteV).toArray) {T : List UInt8} (hT : T = if n = 0 then [] else l) :
    Calls Try.prog 45 #[.int .i64 (n : Int), .agg L] w (NewBytes w (topB n T)) := by
  have HT := shut hT
  clear hT
  have HL := shut eL
  have hLs : L.size = 32 := by rw [eL]; simp [hl]
  have hLa : aggOk 32 (.agg L) = true := by rw [eL]; exact aggOk_agg 32 _ (by simp [hl]) (bytes_all l)
  clear eL
  have en : IntKind.u64.wrap (n : Int) = (n : Int) := by rw [IntKind.wrap_u64]; omega
  have hn0 : (0 : Int) ≤ n := by omega
  have BL0 := blk_new w L 25
  have K0 := (Keeps.refl Nothing w).alloc (.cells L 25)
  have hs0 : (w.alloc (.cells L 25)).heap.size = w.heap.size + 1 := by rw [World.size_alloc]
  have o0 := own8_one (w.alloc (.cells L 25)) 2 rfl
  go_enter Try.func45, Try.ntmps45
  go_wp2_with fail
  rw [hs0] at o0
  generalize w.alloc (.cells L 25) = w0 at *
  go_loopw [5, 6] (fun s5 s6 wx => ∃ (t : Nat) (ao : Option Addr) (cap : Nat) (Q : List UInt8), s5 = .slice ao Q.length cap ∧ s6 = .int .i64 (7 - (t : Int)) ∧ t ≤ 8 ∧ Shut (Q = 2 :: (be8 n).take t) ∧ Shut (Q.length = t + 1) ∧ Own8 wx 5 ao cap Q ∧ Keeps Nothing w0 wx ∧ Shut (∀ g, blockOf ao = some g → w0.heap.size ≤ g)) (fun _ s6 _ => (intOf s6 + 1).toNat)
  case atStart => exact ⟨0, some ⟨w.heap.size + 1, 0, none⟩, 1, [2], rfl, rfl, by omega, shut (by simp), shut rfl, o0, (Keeps.refl _ _).alloc _, shut (fun g hg => by simp [blockOf] at hg; omega)⟩
  case round =>
    obtain ⟨t, ao, cap, Q, rfl, rfl, ht, HQ, HLN, o, K, HF⟩ := hrel
    have hql : Q.length ≤ 9 := by rw [HLN.out]; omega
    by_cases ht8 : t < 8
    · obtain ⟨p, hp⟩ : ∃ p : Nat, 7 - (t : Int) = (p : Int) := ⟨7 - t, by omega⟩
      obtain ⟨q, hq⟩ : ∃ q : Nat, 8 * (p : Int) = (q : Int) := ⟨8 * p, by omega⟩
      rw [hp]
      have hp7 : p ≤ 7 := by omega
      have hq9 : q ≤ 56 := by omega
      go_wp2_with (at_builtin; refine wpList_app8 _ rfl (.tmp 13) (.tmp 21) 22 rfl ao cap Q rfl (World.ownsRow.alloc o _) _ rfl [UInt8.ofNat (n >>> q % 256)] (src_new wr _ (out_byte n q)) (by omega) (by simp) ?_)
      intro ao5 cap5 w5 o5 k5 m5
      have K5 : Keeps Nothing w0 w5 := (K.alloc _).trans k5 (fun i hi hlt => by have := HF.out i hi; omega)
      have HF5 := shut (m5.new (B := w0.heap.size) (by have := K.size; first | omega | (simp only [World.size_alloc]; omega)) HF.out)
      have HQ5 : Shut (Q ++ [UInt8.ofNat (n >>> q % 256)] = 2 :: (be8 n).take (t + 1)) := shut (by rw [HQ.out, be8_take _ ht8, show 56 - 8 * t = q by omega]; rfl)
      have HL5 : Shut ((Q ++ [UInt8.ofNat (n >>> q % 256)]).length = (t + 1) + 1) := shut (by rw [List.length_append, HLN.out]; rfl)
      clear o k5 m5 K HF
      have e9 : (p : Int) - 1 = 7 - ((t + 1 : Nat) : Int) := by omega
      go_wp2_with fail
      go_roundw
      case rel => exact ⟨t + 1, ao5, cap5, Q ++ [UInt8.ofNat (n >>> q % 256)], by simp, by simp, by omega, HQ5, HL5, o5, K5, HF5⟩
      case measure => simp [intOf]; omega
    · have ht9 : t = 8 := by omega
      rw [ht9] at HQ HLN ⊢
      rw [show (7 : Int) - ((8 : Nat) : Int) = -1 from rfl]
      have HQ2 : Shut (Q = 2 :: be8 n) := shut (by rw [HQ.out, List.take_of_length_le (by rw [be8_len]; exact Nat.le_refl _)])
      clear HQ ht9 ht8 ht
      go_wp2_with fail
      by_cases hn1 : n = 0
      · subst hn1
        have HTE : Shut (T = []) := shut (by rw [HT.out, if_pos rfl])
        go_loopw [5, 7] (fun s5 s7 wx => s5 = .slice ao Q.length cap ∧ s7 = .int .i64 0 ∧ wx = wr) (fun _ _ _ => 0)
        case atStart => exact ⟨rfl, rfl, rfl⟩
        case round =>
          rename_i wz
          obtain ⟨rfl, rfl, hww⟩ := hrel
          subst hww
          go_wp2_with fail
          go_ret
          refine ⟨ao, cap, ?_, ?_, K0.trans K (fun _ h _ => h), fun g hg => by have := HF.out g hg; omega⟩
          · rw [show (topB 0 T).length = Q.length from by rw [HQ2.out, HTE.out]; rfl]; rfl
          · rw [show topB 0 T = Q from by rw [HQ2.out, HTE.out]; rfl]; exact o
      · have m0 : (0 : Int) < n := by omega
        have HTE : Shut (T = l) := shut (by rw [HT.out, if_neg hn1])
        go_loopw [5, 7] (fun s5 s6 wx => ∃ (i : Nat) (ao : Option Addr) (cap : Nat) (Q : List UInt8), s5 = .slice ao Q.length cap ∧ s6 = .int .i64 i ∧ i ≤ 32 ∧ Shut (Q = 2 :: (be8 n ++ l.take i)) ∧ Shut (Q.length = 9 + i) ∧ Own8 wx 5 ao cap Q ∧ Keeps Nothing w0 wx ∧ Shut (∀ g, blockOf ao = some g → w0.heap.size ≤ g)) (fun _ s6 _ => 32 - (intOf s6).toNat)
        case atStart => exact ⟨0, ao, cap, Q, rfl, rfl, by omega, shut (by rw [HQ2.out]; simp), shut (by rw [HLN.out]), o, K, HF⟩
        case round =>
          clear HQ2 o K HF HLN hql
          obtain ⟨i, ao, cap, Q, rfl, rfl, hi, HQ, HLN, o, K, HF⟩ := hrel
          have hql : Q.length ≤ 100 := by rw [HLN.out]; omega
          by_cases hlt : i < 32
          · have m1 : (i : Int) < 32 := by omega
            obtain ⟨x, hx⟩ : ∃ x, l[i]? = some x := ⟨l[i]'(by omega), by rw [List.getElem?_eq_getElem (by omega)]⟩
            have e1 := blk_cell (K.blk BL0 (fun h => h)) i (get_byte HL.out hx)
            go_wp2_with (at_builtin; refine wpList_app8 _ rfl (.tmp 31) (.tmp 35) 22 rfl ao cap Q rfl (World.ownsRow.alloc o _) _ rfl [x] (src_new _ _ rfl) (by omega) (by simp) ?_)
            intro ao5 cap5 w5 o5 k5 m5
            have K5 : Keeps Nothing w0 w5 := (K.alloc _).trans k5 (fun i hi hlt => by have := HF.out i hi; omega)
            have HF5 := shut (m5.new (B := w0.heap.size) (by have := K.size; first | omega | (simp only [World.size_alloc]; omega)) HF.out)
            have HQ5 : Shut (Q ++ [x] = 2 :: (be8 n ++ l.take (i + 1))) := shut (by rw [HQ.out, take_add hx, List.cons_append, List.append_assoc])
            have HL5 : Shut ((Q ++ [x]).length = 9 + (i + 1)) := shut (by rw [List.length_append, HLN.out]; rfl)
            clear o k5 m5 K HF e1
            go_wp2_with fail
            go_roundw
            case rel => exact ⟨i + 1, ao5, cap5, Q ++ [x], by simp, by go_num, by omega, HQ5, HL5, o5, K5, HF5⟩
            case measure => simp [intOf]; omega
          · obtain rfl : i = 32 := by omega
            have HQ2 : Shut (Q = topB n l) := shut (by rw [HQ.out, List.take_of_length_le (by omega)]; rfl)
            clear HQ
            have m1 : ¬ (32 : Int) < 32 := by omega
            go_wp2_with fail
            go_ret
            refine ⟨ao, cap, ?_, ?_, K0.trans K (fun _ h _ => h), fun g hg => by have := HF.out g hg; omega⟩
            · rw [show (topB n T).length = Q.length from by rw [HQ2.out, HTE.out]]; rfl
            · rw [show topB n T = Q from by rw [HQ2.out, HTE.out]]; exact o

end Go.Proofs.Ytdmfomjgmmkaeaa

namespace Go.Proofs.Ytdmfomjgmmkaeaa
open Go.RowKit

theorem rsum_own {w : World} {ao : Option Addr} {cap : Nat} {bs : List UInt8} (h : Own8 w 5 ao cap bs) (hl : bs.length ≤ 1000000) :
    Calls Try.prog 15 #[.slice ao bs.length cap] w fun e w' => e = .returned (hashV (shaOf bs)) ∧ Keeps Nothing w w' := rsum_any cap rfl (own8_at h) hl

attribute [local go_sem ↓] exec_load_hash exec_store_hash
attribute [local go_sem] rowOk_new World.setRow_alloc_new

set_option maxRecDepth 100000 in
set_option maxHeartbeats 2000000 in
theorem rtree_rec : ∀ (N : Nat) (w : World) (b o n c : Nat) (rows : List (List UInt8)), n ≤ N → rows.length = n → 1 ≤ n → n ≤ 1000000 → n ≤ c → c ≤ maxLen → RowsAt w (some ⟨b, o, none⟩) rows → (∀ r ∈ rows, r.length ≤ 1000) →
    Calls Try.prog 46 #[.slice (some ⟨b, o, none⟩) n c] w fun e w' => e = .returned (hashV (treeL rows)) ∧ Keeps Nothing w w' := by
  intro N
  induction N with
  | zero => intro w b o n c rows hN _ h1; omega
  | succ N ih =>
    intro w b o n c rows hN hn h1 hn9 hc hcm hR hb
    have hcm9 : c ≤ 9223372036854775807 := by unfold maxLen at hcm; omega
    obtain ⟨Z, hZ⟩ : ∃ Z, Z = (zeros32.map byteV).toArray := ⟨_, rfl⟩
    have hZs : Z.size = 32 := by rw [hZ]; rfl
    have hzl := zeros32_lit
    rw [← hZ] at hzl
    clear hZ
    by_cases h2 : n = 1
    · subst h2
      obtain ⟨r, rfl⟩ : ∃ r, rows = [r] := by
        match rows, hn with
        | [r], _ => exact ⟨r, rfl⟩
      obtain ⟨_, ao', cap', hcl, hB, hl1, hl2⟩ := hR.2 _ rfl 0 r rfl
      have hrl := hb r (by simp)
      rw [treeL_one]
      obtain ⟨X, hX, hXv, hXs, hag⟩ := hash_agg (leafB r)
      have HX := shut hX
      rw [hXv]
      have hbl := fun W (K : Keeps Nothing w W) => rleaf_any cap' (n := r.length) rfl (hB.keeps K (fun _ _ h => h)) (by omega)
      have hsum := fun W (ao : Option Addr) (cap : Nat) (ho : Own8 W 5 ao cap (leafB r)) => rsum_own ho (by unfold leafB; simp; omega)
      rw [hXv] at hsum
      generalize leafB r = ND at *
      rw [Addr.add_mid', Nat.add_zero] at hcl
      clear hX hXv hn hN
      go_enter Try.func46, Try.ntmps46
      have K0 := (Keeps.refl Nothing w).alloc (.cells Z 25)
      have hcl0 := K0.cell hcl (fun h => h)
      rw [hzl] at hcl0
      go_wp2_with fail
      rw [← hzl]
      have B0 := blk_new w Z 25
      clear hcl0 hcl
      generalize w.alloc (.cells Z 25) = w0 at *
      generalize hg : w.heap.size = g at *
      have HG := shut hg
      clear hg hzl
      refine (hbl w0 K0).mono ?_
      rintro e w1 ⟨a1, c1, rfl, o1, k1, _⟩
      have B1 := k1.blk B0 (fun h => h)
      have K1 := K0.trans k1 (fun _ h _ => h)
      clear B0 K0 k1 hbl
      go_wp2_with fail
      refine (hsum _ _ _ o1).mono ?_
      rintro e w2 ⟨rfl, k2⟩
      have B2 := k2.blk B1 (fun h => h)
      have K2 := K1.trans k2 (fun _ h _ => h)
      have r2 := rowOk_blk B2 hZs
      clear B1 K1 k2 hsum o1
      go_wp2_with fail
      have b3 := blk_setRow (cs := X) B2
      refine bodyPost_ret (v := .agg X) (results_cell_row rfl _ _ g _ X (0, 0) _ rfl b3 Try.underlying25 rfl (by rw [infoHash, hXs])) rfl ?_
      exact ⟨rfl, K2.setRow (fun h => absurd h (by have := HG.out; omega)) X⟩
    · have hn2 : 2 ≤ n := by omega
      obtain ⟨s0, s1⟩ := splitN_lt hn2
      have hnode := treeL_node (l := rows) (by omega)
      rw [hn] at hnode
      have hsp := fun W => rhalf_any W n hn2 (by omega)
      obtain ⟨k, hk⟩ : ∃ k, splitN n = k := ⟨_, rfl⟩
      rw [hk] at s0 s1 hnode hsp
      have hlen1 : (rows.take k).length = k := by rw [List.length_take]; omega
      have hlen2 : (rows.drop k).length = n - k := by rw [List.length_drop]; omega
      have ih1 := fun W (K : Keeps Nothing w W) => ih W b o k c (rows.take k) (by omega) hlen1 (by omega) (by omega) (by omega) hcm ((hR.keepsN K).take k) (fun r hr => hb r (List.mem_of_mem_take hr))
      have ih2 := fun W (K : Keeps Nothing w W) => ih W b (o + k) (n - k) (c - k) (rows.drop k) (by omega) hlen2 (by omega) (by omega) (by omega) (by unfold maxLen at *; omega) ((hR.keepsN K).drop k) (fun r hr => hb r (List.mem_of_mem_drop hr))
      have hL1 := treeL_len (l := rows.take k) (by omega)
      have hL2 := treeL_len (l := rows.drop k) (by omega)
      obtain ⟨T1, hT1⟩ : ∃ T1, treeL (rows.take k) = T1 := ⟨_, rfl⟩
      obtain ⟨T2, hT2⟩ : ∃ T2, treeL (rows.drop k) = T2 := ⟨_, rfl⟩
      rw [hT1] at ih1 hL1 hnode
      rw [hT2] at ih2 hL2 hnode
      obtain ⟨C1, hC1⟩ : ∃ C1, (T1.map byteV).toArray = C1 := ⟨_, rfl⟩
      obtain ⟨C2, hC2⟩ : ∃ C2, (T2.map byteV).toArray = C2 := ⟨_, rfl⟩
      rw [show hashV T1 = .agg C1 from by rw [← hC1]; rfl] at ih1
      rw [show hashV T2 = .agg C2 from by rw [← hC2]; rfl] at ih2
      have hnd := fun W => rpair_any W hL1 hL2 hC1.symm hC2.symm
      have hto := fun W => rows_to b o n c k (by omega) s0 W
      have hfr := fun W => rows_from b o n c k s1 hc W
      obtain ⟨X, hX, hXv, hXs, hag⟩ := hash_agg (nodeB T1 T2)
      rw [hnode, hXv]
      have hndl : (nodeB T1 T2).length ≤ 1000000 := by unfold nodeB; simp [hL1, hL2]
      have hsum := fun W (ao : Option Addr) (cap : Nat) (ho : Own8 W 5 ao cap (nodeB T1 T2)) => rsum_own ho hndl
      rw [hXv] at hsum
      generalize nodeB T1 T2 = ND at *
      have m1 : ((n : Int) == 1) = false := by rw [beq_eq_false_iff_ne]; omega
      have m2 : ¬ (n : Int) = 1 := by omega
      clear ih hT1 hT2 hC1 hC2 hL1 hL2 hlen1 hlen2 hX hXv hnode hk hndl hR hb hN h2
      go_enter Try.func46, Try.ntmps46
      go_wp2_with fail
      rw [← hzl]
      have B0 := blk_new w Z 25
      have K0 := (Keeps.refl Nothing w).alloc (.cells Z 25)
      generalize w.alloc (.cells Z 25) = w0 at *
      generalize hg : w.heap.size = g at *
      have HG := shut hg
      clear hg hzl
      refine (hsp _).mono ?_
      rintro e w1 ⟨rfl, hw⟩
      subst w1
      go_wp2_with fail
      refine wp_region_mix (fun _ => True) [(true, 0), (true, 1), (true, 2), (true, 4), (true, 5), (true, 6), (false, 3), (false, 7), (false, 8), (false, 9), (false, 10)] (by kernel_rfl) (by kernel_rfl) trivial ?_
      simp only [mixItems, List.map_cons, List.map_nil, List.getD_cons_zero, List.getD_cons_succ]
      repeat (refine wpMix_free (fun K hK => ?_); go_simp; refine hK _ ?_; clear hK K)
      refine wpMix_one (fun K hK => ?_)
      go_wp2_with fail
      refine (ih1 _ K0.drew).mono ?_
      rintro e w1 ⟨rfl, k1⟩
      have B1 := k1.blk (a := w0.drew) B0 (fun h => h)
      have K1 := K0.drew.trans k1 (fun _ h _ => h)
      clear B0 K0 k1 ih1
      go_wp2_with fail
      refine hK _ _ trivial ?_
      clear hK K
      refine wpMix_one (fun K hK => ?_)
      go_wp2_with fail
      refine (ih2 _ K1).mono ?_
      rintro e w2 ⟨rfl, k2⟩
      have B2 := k2.blk B1 (fun h => h)
      have K2 := K1.trans k2 (fun _ h _ => h)
      clear B1 K1 k2 ih2
      go_wp2_with fail
      refine hK _ _ trivial ?_
      clear hK K
      refine wpMix_one (fun K hK => ?_)
      go_wp2_with fail
      refine (hnd _).mono ?_
      rintro e w3 ⟨a3, c3, rfl, o3, k3, _⟩
      have B3 := k3.blk B2 (fun h => h)
      have K3 := K2.trans k3 (fun _ h _ => h)
      clear B2 K2 k3 hnd
      go_wp2_with fail
      refine hK _ _ trivial ?_
      clear hK K
      refine wpMix_one (fun K hK => ?_)
      go_wp2_with fail
      refine (hsum _ _ _ o3).mono ?_
      rintro e w4 ⟨rfl, k4⟩
      have B4 := k4.blk B3 (fun h => h)
      have K4 := K3.trans k4 (fun _ h _ => h)
      clear B3 K3 k4 hsum o3
      go_wp2_with fail
      refine hK _ _ trivial ?_
      clear hK K
      have r4 := rowOk_blk B4 hZs
      refine wpMix_one (fun K hK => ?_)
      go_wp2_with fail
      refine hK _ _ trivial ?_
      clear hK K
      refine wpMix_nil ?_
      go_wp2_with fail
      have b3 := blk_setRow (cs := X) B4
      refine bodyPost_ret (v := .agg X) (results_cell_row rfl _ _ g _ X (0, 0) _ rfl b3 Try.underlying25 rfl (by rw [infoHash, hXs])) rfl ?_
      exact ⟨rfl, K4.setRow (fun h => absurd h (by have := HG.out; omega)) X⟩

theorem rtree_any {w : World} {ao : Option Addr} {n c : Nat} {rows : List (List UInt8)} (hn : rows.length = n) (h1 : 1 ≤ n) (hn9 : n ≤ 1000000) (hc : n ≤ c) (hcm : c ≤ maxLen) (hR : RowsAt w ao rows) (hb : ∀ r ∈ rows, r.length ≤ 1000) :
    Calls Try.prog 46 #[.slice ao n c] w fun e w' => e = .returned (hashV (treeL rows)) ∧ Keeps Nothing w w' := by
  obtain ⟨b, o, rfl⟩ := hR.head (by omega)
  exact rtree_rec n w b o n c rows (Nat.le_refl _) hn h1 hn9 hc hcm hR hb


set_option maxRecDepth 100000 in
set_option maxHeartbeats 2000000 in
theorem rroot_any {w : World} {ao : Option Addr} {n c : Nat} {rows : List (List UInt8)} (hn : rows.length = n) (hn9 : n ≤ 1000000) (hc : n ≤ c) (hcm : c ≤ maxLen) (hR : RowsAt w ao rows) (hb : ∀ r ∈ rows, r.length ≤ 1000) :
    Calls Try.prog 26 #[.slice ao n c] w fun e w' => e = .returned (hashV (rootL rows)) ∧ Keeps Nothing w w' := by
  obtain ⟨Z, hZ⟩ : ∃ Z, Z = (zeros32.map byteV).toArray := ⟨_, rfl⟩
  have hZs : Z.size = 32 := by rw [hZ]; rfl
  have hzl := zeros32_lit
  rw [← hZ] at hzl
  have HZ := shut hZ
  clear hZ
  have hZa : aggOk 32 (.agg Z) = true := by rw [HZ.out]; exact aggOk_agg 32 _ (by rfl) (bytes_all _)
  by_cases h0 : n = 0
  · subst h0
    have e : rootL rows = shaOf (topB 0 []) := by unfold rootL; rw [if_pos hn]
    rw [e]
    obtain ⟨X, hX, hXv, hXs, hag⟩ := hash_agg (topB 0 [])
    rw [hXv]
    have hsum := fun W (ao : Option Addr) (cap : Nat) (ho : Own8 W 5 ao cap (topB 0 [])) => rsum_own ho (by decide)
    rw [hXv] at hsum
    have htop := fun W => rtop_any W 0 (by decide) (l := zeros32) rfl HZ.out (T := []) (by rw [if_pos rfl])
    generalize topB 0 [] = ND at *
    clear hX hXv e hn hR hb
    go_enter Try.func26, Try.ntmps26
    go_wp2_with fail
    rw [← hzl]
    have B0 := blk_new w Z 25
    have K0 := (Keeps.refl Nothing w).alloc (.cells Z 25)
    generalize w.alloc (.cells Z 25) = w0 at *
    generalize hg : w.heap.size = g at *
    have HG := shut hg
    clear hg hzl
    refine (htop w0).mono ?_
    rintro e w1 ⟨a1, c1, rfl, o1, k1, _⟩
    have B1 := k1.blk B0 (fun h => h)
    have K1 := K0.trans k1 (fun _ h _ => h)
    go_wp2_with fail
    refine (hsum _ _ _ o1).mono ?_
    rintro e w2 ⟨rfl, k2⟩
    have B2 := k2.blk B1 (fun h => h)
    have K2 := K1.trans k2 (fun _ h _ => h)
    have r2 := rowOk_blk B2 hZs
    clear B0 K0 B1 K1 k1 k2 hsum htop o1
    go_wp2_with fail
    have b3 := blk_setRow (cs := X) B2
    refine bodyPost_ret (v := .agg X) (results_cell_row rfl _ _ g _ X (0, 0) _ rfl b3 Try.underlying25 rfl (by rw [infoHash, hXs])) rfl ?_
    exact ⟨rfl, K2.setRow (fun h => absurd h (by have := HG.out; omega)) X⟩
  · have e : rootL rows = shaOf (topB n (treeL rows)) := by unfold rootL; rw [if_neg (by omega), hn]
    rw [e]
    have htr := fun W (K : Keeps Nothing w W) => rtree_any (w := W) (c := c) hn (by omega) hn9 hc hcm (hR.keepsN K) hb
    have htl := treeL_len (l := rows) (by omega)
    obtain ⟨T, hT⟩ : ∃ T, treeL rows = T := ⟨_, rfl⟩
    rw [hT] at htr htl ⊢
    obtain ⟨C, hC⟩ : ∃ C, (T.map byteV).toArray = C := ⟨_, rfl⟩
    have hCs : C.size = 32 := by rw [← hC]; simp [htl]
    have hagC : aggOk 32 (.agg C) = true := aggOk_agg 32 C hCs (by rw [← hC]; exact bytes_all _)
    rw [show hashV T = .agg C from by rw [← hC]; rfl] at htr
    have HC := shut hC.symm
    have htop := fun W => rtop_any W n (by omega) htl HC.out (T := T) (by rw [if_neg h0])
    obtain ⟨X, hX, hXv, hXs, hag⟩ := hash_agg (topB n T)
    rw [hXv]
    have hndl : (topB n T).length ≤ 1000000 := by unfold topB; simp [htl, be8_len]
    have hsum := fun W (ao : Option Addr) (cap : Nat) (ho : Own8 W 5 ao cap (topB n T)) => rsum_own ho hndl
    rw [hXv] at hsum
    generalize topB n T = ND at *
    have m1 : ((n : Int) == 0) = false := by rw [beq_eq_false_iff_ne]; omega
    clear hX hXv e hn hR hb hT hC htl hndl
    go_enter Try.func26, Try.ntmps26
    go_wp2_with fail
    rw [← hzl]
    have B0 := blk_new w Z 25
    have K0 := (Keeps.refl Nothing w).alloc (.cells Z 25)
    generalize w.alloc (.cells Z 25) = w0 at *
    generalize hg : w.heap.size = g at *
    have HG := shut hg
    clear hg hzl
    refine (htr w0 K0).mono ?_
    rintro e w1 ⟨rfl, k1⟩
    have B1 := k1.blk B0 (fun h => h)
    have K1 := K0.trans k1 (fun _ h _ => h)
    clear B0 K0 k1 htr
    go_wp2_with fail
    refine (htop w1).mono ?_
    rintro e w2 ⟨a2, c2, rfl, o2, k2, _⟩
    have B2 := k2.blk B1 (fun h => h)
    have K2 := K1.trans k2 (fun _ h _ => h)
    clear B1 K1 k2 htop
    go_wp2_with fail
    refine (hsum _ _ _ o2).mono ?_
    rintro e w3 ⟨rfl, k3⟩
    have B3 := k3.blk B2 (fun h => h)
    have K3 := K2.trans k3 (fun _ h _ => h)
    have r3 := rowOk_blk B3 hZs
    clear B2 K2 k3 hsum o2
    go_wp2_with fail
    have b3 := blk_setRow (cs := X) B3
    refine bodyPost_ret (v := .agg X) (results_cell_row rfl _ _ g _ X (0, 0) _ rfl b3 Try.underlying25 rfl (by rw [infoHash, hXs])) rfl ?_
    exact ⟨rfl, K3.setRow (fun h => absurd h (by have := HG.out; omega)) X⟩

end Go.Proofs.Ytdmfomjgmmkaeaa

namespace Go.Proofs.Ytdmfomjgmmkaeaa
open Go.RowKit

def PathPost (w : World) (rows : List (List UInt8)) (i : Nat) (e : Ending) (w' : World) : Prop :=
  ∃ ao cap, e = .returned (.slice ao (pathL rows i).length cap) ∧ OwnH w' ao cap (pathL rows i) ∧ Keeps Nothing w w' ∧ (∀ g, blockOf ao = some g → w.heap.size ≤ g)

attribute [local go_sem ↓] exec_load_hash exec_store_hash
attribute [local go_sem] rowOk_new World.setRow_alloc_new

set_option maxRecDepth 100000 in
set_option maxHeartbeats 2000000 in
theorem rpath_rec : ∀ (N : Nat) (w : World) (b o n c : Nat) (rows : List (List UInt8)) (i : Nat), n ≤ N → rows.length = n → 1 ≤ n → n ≤ 1000000 → n ≤ c → c ≤ maxLen → RowsAt w (some ⟨b, o, none⟩) rows → (∀ r ∈ rows, r.length ≤ 1000) → i < n →
    Calls Try.prog 29 #[.slice (some ⟨b, o, none⟩) n c, .int .i64 (i : Int)] w (PathPost w rows i) := by
  intro N
  induction N with
  | zero => intro w b o n c rows i hN _ h1; omega
  | succ N ih =>
    intro w b o n c rows i hN hn h1 hn9 hc hcm hR hb hi
    have hcm9 : c ≤ 9223372036854775807 := by unfold maxLen at hcm; omega
    by_cases h2 : n = 1
    · subst h2
      have e1 := pathL_one (l := rows) (i := i) (by omega)
      have HE := shut e1
      clear e1 ih hn hR hb
      go_enter Try.func29, Try.ntmps29
      go_wp2_with fail
      go_ret
      exact ⟨none, 0, by rw [HE.out]; rfl, by rw [HE.out]; exact ownH_nil w, Keeps.refl _ _, fun g hg => by cases hg⟩
    · have hn2 : 2 ≤ n := by omega
      obtain ⟨s0, s1⟩ := splitN_lt hn2
      have hsp := fun W => rhalf_any W n hn2 (by omega)
      obtain ⟨k, hk⟩ : ∃ k, splitN n = k := ⟨_, rfl⟩
      rw [hk] at s0 s1 hsp
      have hlen1 : (rows.take k).length = k := by rw [List.length_take]; omega
      have hlen2 : (rows.drop k).length = n - k := by rw [List.length_drop]; omega
      have hto := fun W => rows_to b o n c k (by omega) s0 W
      have hfr := fun W => rows_from b o n c k s1 hc W
      have m1 : ((n : Int) == 1) = false := by rw [beq_eq_false_iff_ne]; omega
      have m2 : ¬ (n : Int) = 1 := by omega
      by_cases hik : i < k
      · have hst := pathL_step (l := rows) (i := i) (by omega)
        rw [hn, hk, if_pos hik] at hst
        have hp1 := pathL_32 (rows.take k).length (rows.take k) i (Nat.le_refl _)
        have hp2 := pathL_len (rows.take k).length (rows.take k) i (Nat.le_refl _)
        have ih1 := fun W (K : Keeps Nothing w W) => ih W b o k c (rows.take k) i (by omega) hlen1 (by omega) (by omega) (by omega) hcm ((hR.keepsN K).take k) (fun r hr => hb r (List.mem_of_mem_take hr)) hik
        have ih2 := fun W (K : Keeps Nothing w W) => rtree_rec (n - k) W b (o + k) (n - k) (c - k) (rows.drop k) (Nat.le_refl _) hlen2 (by omega) (by omega) (by omega) (by unfold maxLen at *; omega) ((hR.keepsN K).drop k) (fun r hr => hb r (List.mem_of_mem_drop hr))
        have hTl := treeL_len (l := rows.drop k) (by omega)
        obtain ⟨T, hT⟩ : ∃ T, treeL (rows.drop k) = T := ⟨_, rfl⟩
        rw [hT] at ih2 hTl hst
        obtain ⟨TC, hTC⟩ : ∃ TC, TC = (T.map byteV).toArray := ⟨_, rfl⟩
        have hTs : TC.size = 32 := by rw [hTC]; simp [hTl]
        rw [show hashV T = .agg TC from by rw [hTC]; rfl] at ih2
        have HTC := shut hTC
        obtain ⟨P1, hP1⟩ : ∃ P1, pathL (rows.take k) i = P1 := ⟨_, rfl⟩
        unfold PathPost at ih1
        rw [hP1] at hp1 hp2 hst
        simp only [hP1] at ih1
        obtain ⟨L1, hP1l⟩ : ∃ L1, P1.length = L1 := ⟨_, rfl⟩
        have HST := shut hst
        have m3 : (i : Int) < k := by omega
        clear hT hTC hP1 hst hn hk hN hR hb ih hp1
        go_enter Try.func29, Try.ntmps29
        go_wp2_with fail
        refine (hsp _).mono ?_
        rintro e w1 ⟨rfl, hw⟩
        subst w1
        go_wp2_with fail
        refine wp_region_mix (fun _ => True) [(true, 0), (true, 1), (true, 2), (true, 3), (true, 5), (true, 6), (true, 7), (false, 4), (false, 8), (false, 9), (false, 10), (false, 11)] (by kernel_rfl) (by kernel_rfl) trivial ?_
        simp only [mixItems, List.map_cons, List.map_nil, List.getD_cons_zero, List.getD_cons_succ]
        repeat (refine wpMix_free (fun K hK => ?_); go_simp; refine hK _ ?_; clear hK K)
        refine wpMix_one (fun K hK => ?_)
        go_wp2_with fail
        refine (ih1 _ (Keeps.refl _ _).drew).mono ?_
        rintro e w1 ⟨a1, c1, rfl, o1, k1, f1⟩
        have HF1 := shut f1
        clear f1
        rw [hP1l]
        have K1 := (Keeps.refl Nothing w).drew.trans k1 (fun _ h _ => h)
        go_wp2_with fail
        refine hK _ _ trivial ?_
        clear hK K ih1 k1
        refine wpMix_one (fun K hK => ?_)
        go_wp2_with fail
        refine (ih2 _ K1).mono ?_
        rintro e w2 ⟨rfl, k2⟩
        have K2 := K1.trans k2 (fun _ h _ => h)
        have o2 := k2.own o1 (fun _ _ h => h)
        go_wp2_with fail
        refine hK _ _ trivial ?_
        clear hK K ih2 k2 o1
        refine wpMix_one (fun K hK => ?_)
        go_wp2_with fail
        rw [← zeros32_lit, fill32 zeros32_size hTs]
        have o3 : OwnH (w2.alloc (.cells TC 25)) a1 c1 P1 := World.ownsRow.alloc o2 _
        have D3 := blk_new w2 TC 25
        have K3 := K2.alloc (.cells TC 25)
        refine hK _ _ trivial ?_
        clear hK K o2 K2
        refine wpMix_one (fun K hK => ?_)
        go_wp2_with (at_builtin; refine wpList_appH _ rfl (.tmp 19) (.tmp 24) rfl a1 c1 P1 L1 hP1l rfl o3 w2.heap.size T hTl HTC.out rfl D3 (by omega) ?_)
        intro a4 c4 w4 o4 k4 m4
        have K4 := K3.trans k4 (fun i hi hlt => by have := HF1.out i hi; have e : w.drew.heap.size = w.heap.size := rfl; omega)
        have hk3 := K3.size
        rw [World.size_alloc] at hk3
        have f4 := m4.new (B := w.heap.size) hk3 HF1.out
        have HF4 := shut f4
        clear f4 o3 D3 K3 k4 m4 HF1
        go_wp2_with fail
        refine hK _ _ trivial ?_
        clear hK K
        refine wpMix_one (fun K hK => ?_)
        go_wp2_with fail
        refine hK _ _ trivial ?_
        clear hK K
        refine wpMix_nil ?_
        go_wp2_with fail
        go_ret
        exact ⟨a4, c4, by rw [HST.out, List.length_append, List.length_singleton, hP1l]; rfl, by rw [HST.out]; exact o4, K4, HF4.out⟩
      · have hst := pathL_step (l := rows) (i := i) (by omega)
        rw [hn, hk, if_neg hik] at hst
        have hp1 := pathL_32 (rows.drop k).length (rows.drop k) (i - k) (Nat.le_refl _)
        have hp2 := pathL_len (rows.drop k).length (rows.drop k) (i - k) (Nat.le_refl _)
        have ih1 := fun W (K : Keeps Nothing w W) => ih W b (o + k) (n - k) (c - k) (rows.drop k) (i - k) (by omega) hlen2 (by omega) (by omega) (by omega) (by unfold maxLen at *; omega) ((hR.keepsN K).drop k) (fun r hr => hb r (List.mem_of_mem_drop hr)) (by omega)
        have ih2 := fun W (K : Keeps Nothing w W) => rtree_rec k W b o k c (rows.take k) (Nat.le_refl _) hlen1 (by omega) (by omega) (by omega) hcm ((hR.keepsN K).take k) (fun r hr => hb r (List.mem_of_mem_take hr))
        have hTl := treeL_len (l := rows.take k) (by omega)
        obtain ⟨T, hT⟩ : ∃ T, treeL (rows.take k) = T := ⟨_, rfl⟩
        rw [hT] at ih2 hTl hst
        obtain ⟨TC, hTC⟩ : ∃ TC, TC = (T.map byteV).toArray := ⟨_, rfl⟩
        have hTs : TC.size = 32 := by rw [hTC]; simp [hTl]
        rw [show hashV T = .agg TC from by rw [hTC]; rfl] at ih2
        have HTC := shut hTC
        obtain ⟨P1, hP1⟩ : ∃ P1, pathL (rows.drop k) (i - k) = P1 := ⟨_, rfl⟩
        unfold PathPost at ih1
        rw [hP1] at hp1 hp2 hst
        simp only [hP1] at ih1
        obtain ⟨L1, hP1l⟩ : ∃ L1, P1.length = L1 := ⟨_, rfl⟩
        have HST := shut hst
        have m3 : ¬ (i : Int) < k := by omega
        have m4 : (i : Int) - k = ((i - k : Nat) : Int) := by omega
        clear hT hTC hP1 hst hn hk hN hR hb ih hp1
        go_enter Try.func29, Try.ntmps29
        go_wp2_with fail
        refine (hsp _).mono ?_
        rintro e w1 ⟨rfl, hw⟩
        subst w1
        go_wp2_with fail
        refine wp_region_mix (fun _ => True) [(true, 0), (true, 1), (true, 2), (true, 3), (true, 4), (true, 5), (true, 7), (true, 8), (true, 9), (false, 6), (false, 10), (false, 11), (false, 12), (false, 13)] (by kernel_rfl) (by kernel_rfl) trivial ?_
        simp only [mixItems, List.map_cons, List.map_nil, List.getD_cons_zero, List.getD_cons_succ]
        repeat (refine wpMix_free (fun K hK => ?_); go_simp; refine hK _ ?_; clear hK K)
        refine wpMix_one (fun K hK => ?_)
        go_wp2_with fail
        refine (ih1 _ (Keeps.refl _ _).drew).mono ?_
        rintro e w1 ⟨a1, c1, rfl, o1, k1, f1⟩
        have HF1 := shut f1
        clear f1
        rw [hP1l]
        have K1 := (Keeps.refl Nothing w).drew.trans k1 (fun _ h _ => h)
        go_wp2_with fail
        refine hK _ _ trivial ?_
        clear hK K ih1 k1
        refine wpMix_one (fun K hK => ?_)
        go_wp2_with fail
        refine (ih2 _ K1).mono ?_
        rintro e w2 ⟨rfl, k2⟩
        have K2 := K1.trans k2 (fun _ h _ => h)
        have o2 := k2.own o1 (fun _ _ h => h)
        go_wp2_with fail
        refine hK _ _ trivial ?_
        clear hK K ih2 k2 o1
        refine wpMix_one (fun K hK => ?_)
        go_wp2_with fail
        rw [← zeros32_lit, fill32 zeros32_size hTs]
        have o3 : OwnH (w2.alloc (.cells TC 25)) a1 c1 P1 := World.ownsRow.alloc o2 _
        have D3 := blk_new w2 TC 25
        have K3 := K2.alloc (.cells TC 25)
        refine hK _ _ trivial ?_
        clear hK K o2 K2
        refine wpMix_one (fun K hK => ?_)
        go_wp2_with (at_builtin; refine wpList_appH _ rfl (.tmp 32) (.tmp 37) rfl a1 c1 P1 L1 hP1l rfl o3 w2.heap.size T hTl HTC.out rfl D3 (by omega) ?_)
        intro a4 c4 w4 o4 k4 m4
        have K4 := K3.trans k4 (fun i hi hlt => by have := HF1.out i hi; have e : w.drew.heap.size = w.heap.size := rfl; omega)
        have hk3 := K3.size
        rw [World.size_alloc] at hk3
        have f4 := m4.new (B := w.heap.size) hk3 HF1.out
        have HF4 := shut f4
        clear f4 o3 D3 K3 k4 m4 HF1
        go_wp2_with fail
        refine hK _ _ trivial ?_
        clear hK K
        refine wpMix_one (fun K hK => ?_)
        go_wp2_with fail
        refine hK _ _ trivial ?_
        clear hK K
        refine wpMix_nil ?_
        go_wp2_with fail
        go_ret
        exact ⟨a4, c4, by rw [HST.out, List.length_append, List.length_singleton, hP1l]; rfl, by rw [HST.out]; exact o4, K4, HF4.out⟩

theorem rpath_any {w : World} {ao : Option Addr} {n c : Nat} {rows : List (List UInt8)} (hn : rows.length = n) (hn9 : n ≤ 1000000) (hc : n ≤ c) (hcm : c ≤ maxLen) (hR : RowsAt w ao rows) (hb : ∀ r ∈ rows, r.length ≤ 1000) (i : Nat) (hi : i < n) :
    Calls Try.prog 29 #[.slice ao n c, .int .i64 (i : Int)] w (PathPost w rows i) := by
  obtain ⟨b, o, rfl⟩ := hR.head (by omega)
  exact rpath_rec n w b o n c rows i (Nat.le_refl _) hn (by omega) hn9 hc hcm hR hb hi

end Go.Proofs.Ytdmfomjgmmkaeaa

namespace Go.Proofs.Ytdmfomjgmmkaeaa
open Go.RowKit

attribute [local go_sem ↓] exec_mid_hash exec_load_hash exec_store_hash
attribute [local go_sem] rowOk_new World.setRow_alloc_new

set_option maxRecDepth 100000 in
set_option maxHeartbeats 1000000 in
theorem rsame_true {w : World} (ix ct : Int) {ap aq : Option Addr} {m c d : Nat} {path : List (List UInt8)} (hm : path.length = m) (hm9 : m ≤ 1000000) (hc : m ≤ c) (hcm : c ≤ maxLen) (hd : m ≤ d) (hdm : d ≤ maxLen) (hA : HashesAt w ap path) (hB : HashesAt w aq path) :
    Calls Try.prog 28 #[.agg #[.int .i64 ix, .int .i64 ct, .slice ap m c], .agg #[.int .i64 ix, .int .i64 ct, .slice aq m d]] w fun e w' => e = .returned (.bool true) ∧ Keeps Nothing w w' := by
  have hcm9 : c ≤ 9223372036854775807 := by unfold maxLen at hcm; omega
  have hdm9 : d ≤ 9223372036854775807 := by unfold maxLen at hdm; omega
  have BA := blk_alloc (blk_new w #[.int .i64 ix, .int .i64 ct, .slice ap m c] 46) (.cells #[.int .i64 ix, .int .i64 ct, .slice aq m d] 46)
  have BB := blk_new (w.alloc (.cells #[.int .i64 ix, .int .i64 ct, .slice ap m c] 46)) #[.int .i64 ix, .int .i64 ct, .slice aq m d] 46
  rw [World.size_alloc] at BB
  have K0 := ((Keeps.refl Nothing w).alloc (.cells #[.int .i64 ix, .int .i64 ct, .slice ap m c] 46)).alloc (.cells #[.int .i64 ix, .int .i64 ct, .slice aq m d] 46)
  have hA0 := hA.keepsN K0
  have hB0 := hB.keepsN K0
  have x0 := blk_cell BA 0 rfl
  have x1 := blk_cell BA 1 rfl
  have x2 := blk_cell BA 2 rfl
  have y0 := blk_cell BB 0 rfl
  have y1 := blk_cell BB 1 rfl
  have y2 := blk_cell BB 2 rfl
  go_enter Try.func28, Try.ntmps28
  go_wp2_with fail
  generalize ((w.alloc (.cells #[.int .i64 ix, .int .i64 ct, .slice ap m c] 46)).alloc (.cells #[.int .i64 ix, .int .i64 ct, .slice aq m d] 46)) = w0 at *
  clear x0 x1 y0 y1 hA hB BA BB
  go_loopw [5] (fun s5 wx => ∃ i : Nat, s5 = .int .i64 i ∧ i ≤ m ∧ Keeps Nothing w0 wx) (fun s5 _ => m - (intOf s5).toNat)
  case atStart => exact ⟨0, rfl, by omega, Keeps.refl _ _⟩
  case round =>
    obtain ⟨i, rfl, hi, K⟩ := hrel
    have x2 := K.cell x2 (fun h => h)
    have y2 := K.cell y2 (fun h => h)
    by_cases hlt : i < m
    · have m1 : (i : Int) < m := by omega
      obtain ⟨x, hx⟩ : ∃ x, path[i]? = some x := ⟨path[i]'(by omega), by rw [List.getElem?_eq_getElem (by omega)]⟩
      obtain ⟨b1, o1, rfl⟩ := hA0.head (by omega)
      obtain ⟨b2, o2, rfl⟩ := hB0.head (by omega)
      obtain ⟨_, hx32, r1⟩ := (hA0.keepsN K).2 _ rfl i x hx
      obtain ⟨_, _, r2⟩ := (hB0.keepsN K).2 _ rfl i x hx
      obtain ⟨C, hC⟩ : ∃ C, C = (x.map byteV).toArray := ⟨_, rfl⟩
      have hxl : (x.map byteV).length = 32 := by rw [List.length_map]; exact hx32
      have heq : ∀ V, (Op.equalIn 10000 25 (.agg C) (.agg C)).run Try.prog V = .ok true V := fun V => by
        rw [hC, eql_hash_run _ _ hx32 hx32 V]; simp
      have HC := shut hC.symm
      clear hC hx32
      go_wp2_with fail
      refine wp_region_mix (fun V => Keeps Nothing wr V) [(true, 0), (true, 1), (true, 2), (true, 3), (true, 4), (true, 5), (true, 6), (true, 7), (true, 8), (true, 9), (true, 10)] (by kernel_rfl) (by kernel_rfl) (Keeps.refl _ _).drew ?_
      simp only [mixItems, List.map_cons, List.map_nil, List.getD_cons_zero, List.getD_cons_succ]
      repeat (refine wpMix_free (fun K hK => ?_); go_simp; refine hK _ ?_; clear hK K)
      refine wpMix_yield (v := .slice (some ⟨b1, o1, none⟩) m c) (fun V hV => ?_) (fun K hK => ?_)
      · have z1 := hV.cell x2 (fun h => h)
        go_simp
      go_simp
      refine hK _ ?_
      clear hK K
      repeat (refine wpMix_free (fun K hK => ?_); go_simp; refine hK _ ?_; clear hK K)
      refine wpMix_yield (v := .agg C) (fun V hV => ?_) (fun K hK => ?_)
      · have z1 := rangeAt_keeps r1 hV (fun h => h)
        have k1 := midOk_range z1
        have k2 := midOf_range z1
        rw [hxl] at k1 k2
        rw [HC.out] at k2
        go_simp
      go_simp
      refine hK _ ?_
      clear hK K
      repeat (refine wpMix_free (fun K hK => ?_); go_simp; refine hK _ ?_; clear hK K)
      refine wpMix_yield (v := .slice (some ⟨b2, o2, none⟩) m d) (fun V hV => ?_) (fun K hK => ?_)
      · have z1 := hV.cell y2 (fun h => h)
        go_simp
      go_simp
      refine hK _ ?_
      clear hK K
      repeat (refine wpMix_free (fun K hK => ?_); go_simp; refine hK _ ?_; clear hK K)
      refine wpMix_yield (v := .agg C) (fun V hV => ?_) (fun K hK => ?_)
      · have z1 := rangeAt_keeps r2 hV (fun h => h)
        have k1 := midOk_range z1
        have k2 := midOf_range z1
        rw [hxl] at k1 k2
        rw [HC.out] at k2
        go_simp
      go_simp
      refine hK _ ?_
      clear hK K
      repeat (refine wpMix_free (fun K hK => ?_); go_simp; refine hK _ ?_; clear hK K)
      refine wpMix_nil ?_
      go_wp2_with fail
      go_roundw
      case rel => exact ⟨i + 1, by go_num, by omega, K.drew⟩
      case measure => simp [intOf]; omega
    · obtain rfl : i = m := by omega
      have m1 : ¬ (i : Int) < i := by omega
      go_wp2_with fail
      go_ret
      exact ⟨rfl, K0.trans K (fun _ h _ => h)⟩

end Go.Proofs.Ytdmfomjgmmkaeaa
