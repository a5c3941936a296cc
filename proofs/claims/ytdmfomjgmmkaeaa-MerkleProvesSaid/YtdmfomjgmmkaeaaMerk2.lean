/- merkle.split, top; the tree's plain form. -/
import Derived.Test.YtdmfomjgmmkaeaaMerk1
namespace Go.Proofs.Ytdmfomjgmmkaeaa
open Go.RowKit

set_option maxHeartbeats 400000 in
theorem split_any (w : World) (n : Nat) (h2 : 2 ≤ n) (hn : n < 9223372036854775808) : Calls Try.prog 48 #[.int .i64 (n : Int)] w fun e w' => e = .returned (.int .i64 (splitN n : Int)) ∧ w' = w := by
  obtain ⟨R, hR⟩ : ∃ R, splitN n = R := ⟨_, rfl⟩
  rw [hR]
  have HR := shut hR
  have e1 : ((n : Int) - 1).tdiv 2 = (((n - 1) / 2 : Nat) : Int) := by
    have : (n : Int) - 1 = ((n - 1 : Nat) : Int) := by omega
    rw [this, Int.tdiv_eq_ediv_of_nonneg (by omega)]
    rfl
  obtain ⟨q, hq⟩ : ∃ q, (n - 1) / 2 = q := ⟨_, rfl⟩
  rw [hq] at e1
  have HQ := shut (show ∀ k : Nat, k ≤ q ↔ k < n - k from fun k => by omega)
  have hq9 : q ≤ 4611686018427387903 := by omega
  clear hR hq
  go_enter Try.func48, Try.ntmps48
  go_wp2_with fail
  go_loopw [3] (fun s3 wx => ∃ k : Nat, s3 = .int .i64 k ∧ 0 < k ∧ k < n ∧ Shut (splitF n n k = R) ∧ wx = w) (fun s3 _ => n - (intOf s3).toNat)
  case atStart => exact ⟨1, rfl, by decide, by omega, shut HR.out, rfl⟩
  case round =>
    obtain ⟨k, rfl, hk0, hk, HK, hww⟩ := hrel
    subst wr
    by_cases hlt : k ≤ q
    · have m1 : (k : Int) ≤ q := by omega
      have h3 := (HQ.out k).1 hlt
      have HK2 : Shut (splitF n n (k * 2) = R) := shut (by
        rw [← HK.out]
        obtain ⟨f, hf⟩ : ∃ f, n = f + 1 := ⟨n - 1, by omega⟩
        have h4 : splitF n (f + 1) k = splitF n f (k * 2) := splitF_step h3
        rw [splitF_more n n (f + 1) k hk0 (by omega) (by omega), h4]
        exact splitF_more n n f (k * 2) (by omega) (by omega) (by omega))
      go_wp2_with fail
      go_roundw
      case rel => exact ⟨k * 2, by go_num, by omega, by omega, HK2, by first | rfl | trivial⟩
      case measure => simp [intOf]; omega
    · have m1 : ¬ (k : Int) ≤ q := by omega
      have h3 : ¬ k < n - k := fun h => hlt ((HQ.out k).2 h)
      have HF : Shut (k = R) := shut (by rw [← HK.out, splitF_stop h3])
      go_wp2_with fail
      go_ret
      exact ⟨by rw [← HF.out]; rfl, rfl⟩

set_option maxHeartbeats 1000000 in
theorem top_any {w : World} (n : Nat) (hn : n < 9223372036854775808) {ab : Option Addr} {m : Nat} (c : Nat) {T : List UInt8} (hm : T.length = m) (hB : BytesAt w ab T) (hl : m ≤ 1000) :
    Calls Try.prog 43 #[.int .i64 (n : Int), .slice ab m c] w (NewBytes w (topB n T)) := by
  have HM := shut hm
  clear hm
  have hn0 : (0 : Int) ≤ n := by omega
  have en : IntKind.u64.wrap (n : Int) = (n : Int) := by rw [IntKind.wrap_u64]; omega
  go_enter Try.func43, Try.ntmps43
  go_wp2_with fail
  go_loopw [5, 6] (fun s5 s6 wx => ∃ (t : Nat) (ao : Option Addr) (cap : Nat) (Q : List UInt8), s5 = .slice ao Q.length cap ∧ s6 = .int .i64 (56 - 8 * (t : Int)) ∧ t ≤ 8 ∧ Shut (Q = 2 :: (be8 n).take t) ∧ Shut (Q.length = t + 1) ∧ Own8 wx 5 ao cap Q ∧ Keeps Nothing w wx ∧ Shut (∀ g, blockOf ao = some g → w.heap.size ≤ g)) (fun _ s6 _ => (intOf s6 + 8).toNat)
  case atStart => exact ⟨0, some ⟨w.heap.size, 0, none⟩, 1, [2], rfl, rfl, by omega, shut (by simp), shut rfl, own8_one w 2 rfl, (Keeps.refl _ _).alloc _, shut (fun g hg => by simp [blockOf] at hg; omega)⟩
  case round =>
    obtain ⟨t, ao, cap, Q, rfl, rfl, ht, HQ, HL, o, K, HF⟩ := hrel
    have hql : Q.length ≤ 9 := by rw [HL.out]; omega
    by_cases ht8 : t < 8
    · obtain ⟨q, hq⟩ : ∃ q : Nat, 56 - 8 * (t : Int) = (q : Int) := ⟨56 - 8 * t, by omega⟩
      rw [hq]
      have hq9 : q ≤ 56 := by omega
      go_wp2_with (at_builtin; refine wpList_app8 _ rfl (.tmp 12) (.tmp 19) 22 rfl ao cap Q rfl (World.ownsRow.alloc o _) _ rfl [UInt8.ofNat (n >>> q % 256)] (src_new wr _ (out_byte n q)) (by omega) (by simp) ?_)
      intro ao5 cap5 w5 o5 k5 m5
      have K5 : Keeps Nothing w w5 := (K.alloc _).trans k5 (fun i hi hlt => by have := HF.out i hi; omega)
      have HF5 := shut (m5.new (B := w.heap.size) (by have := K.size; first | omega | (simp only [World.size_alloc]; omega)) HF.out)
      have HQ5 : Shut (Q ++ [UInt8.ofNat (n >>> q % 256)] = 2 :: (be8 n).take (t + 1)) := shut (by rw [HQ.out, be8_take _ ht8, show 56 - 8 * t = q by omega]; rfl)
      have HL5 : Shut ((Q ++ [UInt8.ofNat (n >>> q % 256)]).length = (t + 1) + 1) := shut (by rw [List.length_append, HL.out]; rfl)
      clear o k5 m5 K HF
      have e8 : IntKind.i64.wrap ((q : Int) - 8) = 56 - 8 * ((t + 1 : Nat) : Int) := by rw [IntKind.wrap_i64]; omega
      have e9 : (q : Int) - 8 = 56 - 8 * ((t + 1 : Nat) : Int) := by omega
      go_wp2_with fail
      go_roundw
      case rel => exact ⟨t + 1, ao5, cap5, Q ++ [UInt8.ofNat (n >>> q % 256)], by simp, by simp, by omega, HQ5, HL5, o5, K5, HF5⟩
      case measure => simp [intOf]; omega
    · have ht9 : t = 8 := by omega
      rw [ht9] at HQ HL ⊢
      rw [show (56 : Int) - 8 * ((8 : Nat) : Int) = -8 from rfl]
      have hB2 := hB.keeps K (fun _ _ h => h)
      have hsrc := src_at c hB2
      rw [HM.out] at hsrc
      have hfin : Q ++ T = topB n T := by rw [HQ.out, List.take_of_length_le (by rw [be8_len]; exact Nat.le_refl _)]; rfl
      have HFN := shut hfin
      clear hfin hB2 ht8 ht ht9
      go_wp2_with (at_builtin; refine wpList_app8 _ rfl (.tmp 21) (.tmp 22) 22 rfl ao cap Q rfl o _ rfl T (by rw [HM.out]; exact hsrc) (by omega) (by rw [HM.out]; omega) ?_)
      intro ao5 cap5 w5 o5 k5 m5
      have K5 : Keeps Nothing w w5 := K.trans k5 (fun i hi hlt => by have := HF.out i hi; omega)
      have hf5 := m5.new (B := w.heap.size) K.size HF.out
      have hlen : Q.length + T.length = (topB n T).length := by rw [← List.length_append, HFN.out]
      rw [hlen]
      rw [HFN.out] at o5
      go_wp2_with fail
      go_ret
      exact ⟨ao5, cap5, rfl, o5, K5, hf5⟩

/-- The tree over a list of leaves. -/
def treeF : Nat → List (List UInt8) → List UInt8
  | 0, _ => []
  | f + 1, l => if l.length ≤ 1 then shaOf (leafB (l.headD [])) else shaOf (nodeB (treeF f (l.take (splitN l.length))) (treeF f (l.drop (splitN l.length))))
theorem treeF_one {f : Nat} {b : List UInt8} : treeF (f + 1) [b] = shaOf (leafB b) := rfl
theorem treeF_node {f : Nat} {l : List (List UInt8)} (h : 2 ≤ l.length) : treeF (f + 1) l = shaOf (nodeB (treeF f (l.take (splitN l.length))) (treeF f (l.drop (splitN l.length)))) := by
  show (if l.length ≤ 1 then _ else _) = _
  rw [if_neg (by omega)]
theorem treeF_more : ∀ (f g : Nat) (l : List (List UInt8)), l.length ≤ f → l.length ≤ g → 1 ≤ l.length → treeF f l = treeF g l := by
  intro f
  induction f with
  | zero => intro g l h _ h1; omega
  | succ f ih =>
    intro g l hf hg h1
    cases g with
    | zero => omega
    | succ g =>
      by_cases h2 : l.length ≤ 1
      · show (if l.length ≤ 1 then _ else _) = (if l.length ≤ 1 then _ else _)
        rw [if_pos h2, if_pos h2]
      · obtain ⟨s0, s1⟩ := splitN_lt (n := l.length) (by omega)
        rw [treeF_node (by omega), treeF_node (by omega), ih g _ (by rw [List.length_take]; omega) (by rw [List.length_take]; omega) (by rw [List.length_take]; omega), ih g _ (by rw [List.length_drop]; omega) (by rw [List.length_drop]; omega) (by rw [List.length_drop]; omega)]
def treeL (l : List (List UInt8)) : List UInt8 := treeF l.length l
theorem treeL_one (b : List UInt8) : treeL [b] = shaOf (leafB b) := rfl
theorem treeL_node {l : List (List UInt8)} (h : 2 ≤ l.length) : treeL l = shaOf (nodeB (treeL (l.take (splitN l.length))) (treeL (l.drop (splitN l.length)))) := by
  obtain ⟨s0, s1⟩ := splitN_lt h
  obtain ⟨f, hf⟩ : ∃ f, l.length = f + 1 := ⟨l.length - 1, by omega⟩
  have e1 : treeL l = treeF (f + 1) l := by unfold treeL; rw [hf]
  rw [e1, treeF_node h]
  unfold treeL
  rw [treeF_more f (l.take (splitN l.length)).length _ (by rw [List.length_take]; omega) (Nat.le_refl _) (by rw [List.length_take]; omega), treeF_more f (l.drop (splitN l.length)).length _ (by rw [List.length_drop]; omega) (Nat.le_refl _) (by rw [List.length_drop]; omega)]
theorem treeL_len {l : List (List UInt8)} (h : 1 ≤ l.length) : (treeL l).length = 32 := by
  by_cases h2 : 2 ≤ l.length
  · rw [treeL_node h2, sha_len]
  · obtain ⟨b, rfl⟩ : ∃ b, l = [b] := by
      match l, h, h2 with
      | [b], _, _ => exact ⟨b, rfl⟩
      | _ :: _ :: _, _, h2 => simp at h2
    rw [treeL_one, sha_len]
def rootL (l : List (List UInt8)) : List UInt8 := if l.length = 0 then shaOf (topB 0 []) else shaOf (topB l.length (treeL l))

end Go.Proofs.Ytdmfomjgmmkaeaa
