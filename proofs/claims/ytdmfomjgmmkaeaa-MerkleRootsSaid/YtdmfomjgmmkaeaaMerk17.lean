/- The document's top. -/
import Derived.Test.YtdmfomjgmmkaeaaMerk16
namespace Go.Proofs.Ytdmfomjgmmkaeaa
open Go.RowKit

set_option maxRecDepth 100000 in
set_option maxHeartbeats 1000000 in
theorem rtop_any (w : World) (n : Nat) (hn : n < 9223372036854775808) {l : List UInt8} (hl : l.length = 32) {L : Array Value} (eL : L = (l.map byteV).toArray) {T : List UInt8} (hT : T = if n = 0 then [] else l) :
    Calls Try.prog 45 #[.int .i64 (n : Int), .agg L] w (NewBytes w (topB n T)) := by
  have HT := shut hT
  clear hT
  have HL := shut eL
  have hLs : L.size = 32 := by rw [eL]; simp [hl]
  have hLa : aggOk 32 (.agg L) = true := by rw [eL]; exact aggOk_agg 32 _ (by simp [hl]) (bytes_all l)
  clear eL
  have en : IntKind.u64.wrap (n : Int) = (n : Int) := by rw [IntKind.wrap_u64]; omega
  have hn0 : (0 : Int) ≤ n := by omega
  have BL0 := blk_new w L 25
  have K0 := (Keeps.refl Nothing w).alloc (.cells L 25)
  have hs0 : (w.alloc (.cells L 25)).heap.size = w.heap.size + 1 := by rw [World.size_alloc]
  have o0 := own8_one (w.alloc (.cells L 25)) 2 rfl
  go_enter Try.func45, Try.ntmps45
  go_wp2_with fail
  rw [hs0] at o0
  generalize w.alloc (.cells L 25) = w0 at *
  go_loopw [5, 6] (fun s5 s6 wx => ∃ (t : Nat) (ao : Option Addr) (cap : Nat) (Q : List UInt8), s5 = .slice ao Q.length cap ∧ s6 = .int .i64 (7 - (t : Int)) ∧ t ≤ 8 ∧ Shut (Q = 2 :: (be8 n).take t) ∧ Shut (Q.length = t + 1) ∧ Own8 wx 5 ao cap Q ∧ Keeps Nothing w0 wx ∧ Shut (∀ g, blockOf ao = some g → w0.heap.size ≤ g)) (fun _ s6 _ => (intOf s6 + 1).toNat)
  case atStart => exact ⟨0, some ⟨w.heap.size + 1, 0, none⟩, 1, [2], rfl, rfl, by omega, shut (by simp), shut rfl, o0, (Keeps.refl _ _).alloc _, shut (fun g hg => by simp [blockOf] at hg; omega)⟩
  case round =>
    obtain ⟨t, ao, cap, Q, rfl, rfl, ht, HQ, HLN, o, K, HF⟩ := hrel
    have hql : Q.length ≤ 9 := by rw [HLN.out]; omega
    by_cases ht8 : t < 8
    · obtain ⟨p, hp⟩ : ∃ p : Nat, 7 - (t : Int) = (p : Int) := ⟨7 - t, by omega⟩
      obtain ⟨q, hq⟩ : ∃ q : Nat, 8 * (p : Int) = (q : Int) := ⟨8 * p, by omega⟩
      rw [hp]
      have hp7 : p ≤ 7 := by omega
      have hq9 : q ≤ 56 := by omega
      go_wp2_with (at_builtin; refine wpList_app8 _ rfl (.tmp 13) (.tmp 21) 22 rfl ao cap Q rfl (World.ownsRow.alloc o _) _ rfl [UInt8.ofNat (n >>> q % 256)] (src_new wr _ (out_byte n q)) (by omega) (by simp) ?_)
      intro ao5 cap5 w5 o5 k5 m5
      have K5 : Keeps Nothing w0 w5 := (K.alloc _).trans k5 (fun i hi hlt => by have := HF.out i hi; omega)
      have HF5 := shut (m5.new (B := w0.heap.size) (by have := K.size; first | omega | (simp only [World.size_alloc]; omega)) HF.out)
      have HQ5 : Shut (Q ++ [UInt8.ofNat (n >>> q % 256)] = 2 :: (be8 n).take (t + 1)) := shut (by rw [HQ.out, be8_take _ ht8, show 56 - 8 * t = q by omega]; rfl)
      have HL5 : Shut ((Q ++ [UInt8.ofNat (n >>> q % 256)]).length = (t + 1) + 1) := shut (by rw [List.length_append, HLN.out]; rfl)
      clear o k5 m5 K HF
      have e9 : (p : Int) - 1 = 7 - ((t + 1 : Nat) : Int) := by omega
      go_wp2_with fail
      go_roundw
      case rel => exact ⟨t + 1, ao5, cap5, Q ++ [UInt8.ofNat (n >>> q % 256)], by simp, by simp, by omega, HQ5, HL5, o5, K5, HF5⟩
      case measure => simp [intOf]; omega
    · have ht9 : t = 8 := by omega
      rw [ht9] at HQ HLN ⊢
      rw [show (7 : Int) - ((8 : Nat) : Int) = -1 from rfl]
      have HQ2 : Shut (Q = 2 :: be8 n) := shut (by rw [HQ.out, List.take_of_length_le (by rw [be8_len]; exact Nat.le_refl _)])
      clear HQ ht9 ht8 ht
      go_wp2_with fail
      by_cases hn1 : n = 0
      · subst hn1
        have HTE : Shut (T = []) := shut (by rw [HT.out, if_pos rfl])
        go_loopw [5, 7] (fun s5 s7 wx => s5 = .slice ao Q.length cap ∧ s7 = .int .i64 0 ∧ wx = wr) (fun _ _ _ => 0)
        case atStart => exact ⟨rfl, rfl, rfl⟩
        case round =>
          rename_i wz
          obtain ⟨rfl, rfl, hww⟩ := hrel
          subst hww
          go_wp2_with fail
          go_ret
          refine ⟨ao, cap, ?_, ?_, K0.trans K (fun _ h _ => h), fun g hg => by have := HF.out g hg; omega⟩
          · rw [show (topB 0 T).length = Q.length from by rw [HQ2.out, HTE.out]; rfl]; rfl
          · rw [show topB 0 T = Q from by rw [HQ2.out, HTE.out]; rfl]; exact o
      · have m0 : (0 : Int) < n := by omega
        have HTE : Shut (T = l) := shut (by rw [HT.out, if_neg hn1])
        go_loopw [5, 7] (fun s5 s6 wx => ∃ (i : Nat) (ao : Option Addr) (cap : Nat) (Q : List UInt8), s5 = .slice ao Q.length cap ∧ s6 = .int .i64 i ∧ i ≤ 32 ∧ Shut (Q = 2 :: (be8 n ++ l.take i)) ∧ Shut (Q.length = 9 + i) ∧ Own8 wx 5 ao cap Q ∧ Keeps Nothing w0 wx ∧ Shut (∀ g, blockOf ao = some g → w0.heap.size ≤ g)) (fun _ s6 _ => 32 - (intOf s6).toNat)
        case atStart => exact ⟨0, ao, cap, Q, rfl, rfl, by omega, shut (by rw [HQ2.out]; simp), shut (by rw [HLN.out]), o, K, HF⟩
        case round =>
          clear HQ2 o K HF HLN hql
          obtain ⟨i, ao, cap, Q, rfl, rfl, hi, HQ, HLN, o, K, HF⟩ := hrel
          have hql : Q.length ≤ 100 := by rw [HLN.out]; omega
          by_cases hlt : i < 32
          · have m1 : (i : Int) < 32 := by omega
            obtain ⟨x, hx⟩ : ∃ x, l[i]? = some x := ⟨l[i]'(by omega), by rw [List.getElem?_eq_getElem (by omega)]⟩
            have e1 := blk_cell (K.blk BL0 (fun h => h)) i (get_byte HL.out hx)
            go_wp2_with (at_builtin; refine wpList_app8 _ rfl (.tmp 31) (.tmp 35) 22 rfl ao cap Q rfl (World.ownsRow.alloc o _) _ rfl [x] (src_new _ _ rfl) (by omega) (by simp) ?_)
            intro ao5 cap5 w5 o5 k5 m5
            have K5 : Keeps Nothing w0 w5 := (K.alloc _).trans k5 (fun i hi hlt => by have := HF.out i hi; omega)
            have HF5 := shut (m5.new (B := w0.heap.size) (by have := K.size; first | omega | (simp only [World.size_alloc]; omega)) HF.out)
            have HQ5 : Shut (Q ++ [x] = 2 :: (be8 n ++ l.take (i + 1))) := shut (by rw [HQ.out, take_add hx, List.cons_append, List.append_assoc])
            have HL5 : Shut ((Q ++ [x]).length = 9 + (i + 1)) := shut (by rw [List.length_append, HLN.out]; rfl)
            clear o k5 m5 K HF e1
            go_wp2_with fail
            go_roundw
            case rel => exact ⟨i + 1, ao5, cap5, Q ++ [x], by simp, by go_num, by omega, HQ5, HL5, o5, K5, HF5⟩
            case measure => simp [intOf]; omega
          · obtain rfl : i = 32 := by omega
            have HQ2 : Shut (Q = topB n l) := shut (by rw [HQ.out, List.take_of_length_le (by omega)]; rfl)
            clear HQ
            have m1 : ¬ (32 : Int) < 32 := by omega
            go_wp2_with fail
            go_ret
            refine ⟨ao, cap, ?_, ?_, K0.trans K (fun _ h _ => h), fun g hg => by have := HF.out g hg; omega⟩
            · rw [show (topB n T).length = Q.length from by rw [HQ2.out, HTE.out]]; rfl
            · rw [show topB n T = Q from by rw [HQ2.out, HTE.out]]; exact o

end Go.Proofs.Ytdmfomjgmmkaeaa
