/- The document's answer: words and heads of lines. The document's answer: heads. -/
import Derived.Test.YtiliajnijjkcdaaDoorMan18
import Derived.Test.YtiliajnijjkcdaaDoorMixU
namespace Go.Proofs.YtiliajnijjkcdaaDoor
open Go.RowKit

attribute [local irreducible] wpMix wpList
attribute [local go_sem ↓] exec_mid_src exec_store_src
attribute [local go_sem] rowOk_new World.setRow_alloc_new aggOk_src

/-- The words so far; the next one begins at f. -/
def WordsI (s : List UInt8) (L : List (List UInt8)) (f i : Nat) : Prop :=
  L.length ≤ i ∧ (∀ x ∈ L, x.length ≤ s.length) ∧ ((i ≤ s.length ∧ f ≤ i ∧ (32 : UInt8) ∉ (s.drop f).take (i - f) ∧ blanksL s = L ++ blanksL (s.drop f)) ∨ (i = s.length + 1 ∧ blanksL s = L))
theorem words_init (s : List UInt8) : WordsI s [] 0 0 := ⟨Nat.le_refl _, by simp, .inl ⟨Nat.zero_le _, Nat.le_refl _, by simp, by simp⟩⟩
theorem words_split {s : List UInt8} {f i : Nat} {c : UInt8} (hf : f ≤ i) (hc : s[i]? = some c) : s.drop f = (s.drop f).take (i - f) ++ c :: s.drop (i + 1) := by
  have h1 := (List.take_append_drop (i - f) (s.drop f)).symm
  rw [List.drop_drop, show f + (i - f) = i by omega] at h1
  obtain ⟨hlt, hv⟩ := List.getElem?_eq_some_iff.1 hc
  rw [List.drop_eq_getElem_cons hlt, hv] at h1
  exact h1
theorem words_other {s : List UInt8} {L : List (List UInt8)} {f i : Nat} {c : UInt8} (h : WordsI s L f i) (hc : s[i]? = some c) (h32 : c ≠ 32) : WordsI s L f (i + 1) := by
  have hlt := (List.getElem?_eq_some_iff.1 hc).1
  obtain ⟨h1, h2, ⟨h3, h4, h5, h6⟩ | ⟨h3, _⟩⟩ := h
  · refine ⟨by omega, h2, .inl ⟨by omega, by omega, ?_, h6⟩⟩
    rw [show i + 1 - f = (i - f) + 1 by omega, List.take_add_one, List.getElem?_drop, show f + (i - f) = i by omega, hc]
    simp only [List.mem_append, Option.toList_some, List.mem_singleton]
    rintro (q | q)
    · exact h5 q
    · exact h32 q.symm
  · omega
theorem words_blank {s : List UInt8} {L : List (List UInt8)} {f i : Nat} (h : WordsI s L f i) (hc : s[i]? = some 32) : f ≤ i ∧ WordsI s (L ++ [(s.drop f).take (i - f)]) (i + 1) (i + 1) := by
  have hlt := (List.getElem?_eq_some_iff.1 hc).1
  obtain ⟨h1, h2, ⟨h3, h4, h5, h6⟩ | ⟨h3, _⟩⟩ := h
  · refine ⟨h4, by simp only [List.length_append, List.length_singleton]; omega, fun x hx => ?_, .inl ⟨by omega, Nat.le_refl _, by simp, ?_⟩⟩
    · rcases List.mem_append.1 hx with hx | hx
      · exact h2 x hx
      · rw [List.mem_singleton] at hx
        subst hx
        rw [List.length_take, List.length_drop]
        omega
    · rw [h6, List.append_assoc]
      congr 1
      have := words_split h4 hc
      rw [this]
      have e := blanks_app (a := (s.drop f).take (i - f)) (s.drop (i + 1)) h5
      rw [← this] at e ⊢
      exact e
  · omega
theorem words_end {s : List UInt8} {L : List (List UInt8)} {f : Nat} (h : WordsI s L f s.length) : f ≤ s.length ∧ WordsI s (L ++ [(s.drop f).take (s.length - f)]) (s.length + 1) (s.length + 1) := by
  obtain ⟨h1, h2, ⟨h3, h4, h5, h6⟩ | ⟨h3, _⟩⟩ := h
  · have he : (s.drop f).take (s.length - f) = s.drop f := List.take_of_length_le (by rw [List.length_drop]; omega)
    rw [he] at h5 ⊢
    refine ⟨h4, by simp only [List.length_append, List.length_singleton]; omega, fun x hx => ?_, .inr ⟨rfl, ?_⟩⟩
    · rcases List.mem_append.1 hx with hx | hx
      · exact h2 x hx
      · rw [List.mem_singleton] at hx
        subst hx
        rw [List.length_drop]
        omega
    · rw [h6, blanks_word h5]
  · omega

/-- What words leaves. -/
def WordsPost (w : World) (l : List (List UInt8)) (n : Nat) (e : Ending) (w' : World) : Prop := ∃ ao c, e = .returned (.slice ao l.length c) ∧ Keeps Nothing w w' ∧ RowR w' 9 ao c (l.map txV) ∧ (∀ g, blockOf ao = some g → w.heap.size ≤ g) ∧ (∀ x ∈ l, x.length ≤ n) ∧ l.length ≤ n + 1

set_option maxRecDepth 100000 in
set_option linter.unusedSimpArgs false in
set_option maxHeartbeats 8000000 in
theorem rwords_any (w : World) (s : List UInt8) (hs : s.length ≤ 10000000) : Calls Tryd.prog 45 #[.string ⟨s.toArray⟩] w (WordsPost w (blanksL s) s.length) := by
  have hsz : (ByteArray.mk s.toArray).size = s.length := rfl
  obtain ⟨n, hn⟩ : ∃ n, s.length = n := ⟨_, rfl⟩
  have HN := shut hn
  have H0 : Shut (WordsI s [] 0 0) := shut (words_init s)
  rw [hn] at hsz hs ⊢
  clear hn
  go_enter Tryd.func45, Tryd.ntmps45
  go_wp2_with fail
  go_loopw [3, 4, 5] (fun s3 s4 s5 wx => ∃ (i f k : Nat) (ao : Option Addr) (c : Nat) (L : List (List UInt8)), s5 = .int .i64 i ∧ s4 = .int .i64 f ∧ s3 = .slice ao k c ∧ i ≤ n + 1 ∧ f ≤ n + 1 ∧ k ≤ i ∧ Keeps (fun b => w.heap.size ≤ b) w wx ∧ Shut (WordsI s L f i ∧ L.length = k ∧ RowR wx 9 ao c (L.map txV) ∧ ∀ g, blockOf ao = some g → w.heap.size ≤ g)) (fun _ _ s5 _ => n + 1 - (intOf s5).toNat)
  case atStart => exact ⟨0, 0, 0, none, 0, [], rfl, rfl, rfl, Nat.zero_le _, Nat.zero_le _, Nat.zero_le _, Keeps.refl _ _, shut ⟨H0.out, rfl, rowR_nil _ _, fun g hg => by cases hg⟩⟩
  case round =>
    obtain ⟨i, f, k, ao, c, L, rfl, rfl, rfl, hi, hf, hk, K, HL⟩ := hrel
    clear H0
    by_cases hle : i ≤ n
    rotate_left
    · obtain rfl : i = n + 1 := by omega
      have m1 : ¬ ((n + 1 : Nat) : Int) ≤ n := by omega
      have hfin : WordsPost w (blanksL s) n (.returned (.slice ao k c)) wr := by
        obtain ⟨⟨h1, h2, h3⟩, h4, h5, h6⟩ := HL.out
        rcases h3 with ⟨h3, _⟩ | ⟨_, h3⟩
        · have := HN.out; omega
        · rw [h3]
          have := HN.out
          exact ⟨ao, c, by rw [h4], keepsHi K, h5, h6, fun x hx => by have := h2 x hx; omega, by omega⟩
      have HF := shut hfin
      clear hfin HL
      go_wp2_with fail
      go_ret
      exact HF.out
    have m1 : (i : Int) ≤ n := by omega
    have m0 : (0 : Int) ≤ i := by omega
    have m0f : (0 : Int) ≤ f := by omega
    by_cases hin : i = n
    · subst hin
      have m2 : ((i : Int) == i) = true := beq_self_eq_true _
      obtain ⟨hfi, hw⟩ := words_end (s := s) (L := L) (f := f) (by rw [HN.out]; exact HL.out.1)
      rw [HN.out] at hfi hw
      have hcut := fun W => str_cut s (i := f) (n := i - f) (j := i) (by omega) (by rw [HN.out]; exact Nat.le_refl _) W
      have HW := shut hw
      generalize (s.drop f).take (i - f) = seg at *
      have D := blk_new wr #[.string ⟨seg.toArray⟩] 9
      have kd : Keeps Nothing wr (wr.alloc (.cells #[.string ⟨seg.toArray⟩] 9)) := (Keeps.refl Nothing wr).alloc _
      have RD := shut (HL.out.2.2.1.keepsN kd)
      have LL := shut HL.out.2.1
      have LN := shut HL.out.2.2.2
      have hlm : Shut ((L.map txV).length = k) := shut (by rw [List.length_map]; exact LL.out)
      have hks : w.heap.size ≤ wr.heap.size := K.size
      clear hw HL
      go_wp2_with (at_builtin; refine wpList_appZ _ rfl (.tmp 22) (.tmp 27) rfl ao c (L.map txV) k hlm.out rfl RD.out _ 1 [txV seg] rfl (src_str1 D) (by omega) (by omega) ?_)
      intro a2 c2 w7 R7 _ k7 m7
      have HR2 : Shut (WordsI s (L ++ [seg]) (i + 1) (i + 1) ∧ (L ++ [seg]).length = k + 1 ∧ RowR w7 9 a2 c2 ((L ++ [seg]).map txV) ∧ ∀ g, blockOf a2 = some g → w.heap.size ≤ g) :=
        shut ⟨HW.out, by rw [List.length_append, LL.out]; rfl, by rw [List.map_append]; exact R7, fun g hg => moved_ge m7 LN.out (by omega) hg⟩
      have K2 := (K.trans kd (fun _ h _ => h.elim)).trans k7 (fun g hg _ => LN.out g hg)
      clear R7 k7 m7 RD LL LN hlm HW kd D K
      go_wp2_with fail
      go_roundw
      case rel => exact ⟨i + 1, i + 1, k + 1, a2, c2, L ++ [seg], by go_num, by go_num, rfl, by omega, by omega, by omega, K2, HR2⟩
      case measure => (simp [intOf]; try omega)
    have m2 : ((i : Int) == n) = false := by rw [beq_eq_false_iff_ne]; omega
    have m2' : ¬ (i : Int) = n := by omega
    obtain ⟨b, hb⟩ : ∃ b, s[i]? = some b := ⟨_, List.getElem?_eq_getElem (by rw [HN.out]; omega)⟩
    have hix := fun kk W => str_at s hb kk W
    by_cases hb32 : b = 32
    · subst hb32
      have hb2 : ((32 : UInt8).toNat : Int) = 32 := rfl
      rw [hb2] at hix
      obtain ⟨hfi, hw⟩ := words_blank (s := s) (L := L) (f := f) HL.out.1 hb
      have hcut := fun W => str_cut s (i := f) (n := i - f) (j := i) (by omega) (by rw [HN.out]; omega) W
      have HW := shut hw
      generalize (s.drop f).take (i - f) = seg at *
      have D := blk_new wr #[.string ⟨seg.toArray⟩] 9
      have kd : Keeps Nothing wr (wr.alloc (.cells #[.string ⟨seg.toArray⟩] 9)) := (Keeps.refl Nothing wr).alloc _
      have RD := shut (HL.out.2.2.1.keepsN kd)
      have LL := shut HL.out.2.1
      have LN := shut HL.out.2.2.2
      have hlm : Shut ((L.map txV).length = k) := shut (by rw [List.length_map]; exact LL.out)
      have hks : w.heap.size ≤ wr.heap.size := K.size
      clear hw HL hb
      go_wp2_with (at_builtin; refine wpList_appZ _ rfl (.tmp 22) (.tmp 27) rfl ao c (L.map txV) k hlm.out rfl RD.out _ 1 [txV seg] rfl (src_str1 D) (by omega) (by omega) ?_)
      intro a2 c2 w7 R7 _ k7 m7
      have HR2 : Shut (WordsI s (L ++ [seg]) (i + 1) (i + 1) ∧ (L ++ [seg]).length = k + 1 ∧ RowR w7 9 a2 c2 ((L ++ [seg]).map txV) ∧ ∀ g, blockOf a2 = some g → w.heap.size ≤ g) :=
        shut ⟨HW.out, by rw [List.length_append, LL.out]; rfl, by rw [List.map_append]; exact R7, fun g hg => moved_ge m7 LN.out (by omega) hg⟩
      have K2 := (K.trans kd (fun _ h _ => h.elim)).trans k7 (fun g hg _ => LN.out g hg)
      clear R7 k7 m7 RD LL LN hlm HW kd D K
      go_wp2_with fail
      go_roundw
      case rel => exact ⟨i + 1, i + 1, k + 1, a2, c2, L ++ [seg], by go_num, by go_num, rfl, by omega, by omega, by omega, K2, HR2⟩
      case measure => (simp [intOf]; try omega)
    · have hbn : ((b.toNat : Int) == 32) = false := by rw [beq_eq_false_iff_ne]; intro q; exact hb32 (UInt8.toNat_inj.1 (by show b.toNat = 32; omega))
      have hbn' : ¬ (b.toNat : Int) = 32 := by intro q; exact hb32 (UInt8.toNat_inj.1 (by show b.toNat = 32; omega))
      have HW := shut (words_other HL.out.1 hb hb32)
      have HR2 : Shut (WordsI s L f (i + 1) ∧ L.length = k ∧ RowR wr 9 ao c (L.map txV) ∧ ∀ g, blockOf ao = some g → w.heap.size ≤ g) := shut ⟨HW.out, HL.out.2⟩
      clear HW HL hb hb32
      go_wp2_with fail
      go_roundw
      case rel => exact ⟨i + 1, f, k, ao, c, L, by go_num, rfl, rfl, by omega, by omega, by omega, K, HR2⟩
      case measure => (simp [intOf]; try omega)

end Go.Proofs.YtiliajnijjkcdaaDoor

namespace Go.Proofs.YtiliajnijjkcdaaDoor
open Go.RowKit

attribute [local irreducible] wpMix wpList
attribute [local go_sem ↓] exec_mid_src exec_store_src
attribute [local go_sem] rowOk_new World.setRow_alloc_new aggOk_src

/-- What head leaves. -/
def RHeadPost (w : World) : HeadD → Ending → World → Prop
  | none, e, w' => e = .returned (.tuple #[.string ⟨#[]⟩, .slice none 0 0, .bool false]) ∧ Keeps Nothing w w'
  | some (nm, deps), e, w' => ∃ ao c, e = .returned (.tuple #[.string ⟨nm.toArray⟩, .slice ao deps.length c, .bool true]) ∧ Keeps Nothing w w' ∧ RowR w' 9 ao c (deps.map txV) ∧ isName nm = true ∧ deps.all isName = true
theorem headW_ne {e n : List UInt8} {r : List (List UInt8)} (h : e ≠ [61, 61]) : headW (e :: n :: r) = none := by
  cases r with
  | nil => rw [headW_two, if_neg (fun q => h q.1)]
  | cons c r =>
    cases r with
    | nil => rfl
    | cons d ds => rw [headW_many, if_neg (fun q => h q.1)]
theorem headW_noname {e n : List UInt8} {r : List (List UInt8)} (h : ¬ isName n = true) : headW (e :: n :: r) = none := by
  cases r with
  | nil => rw [headW_two, if_neg (fun q => h q.2)]
  | cons c r =>
    cases r with
    | nil => rfl
    | cons d ds => rw [headW_many, if_neg (fun q => h q.2.1)]
/-- A head's words, but for what it needs. -/
def HeadOk (n : List UInt8) (L : List (List UInt8)) : Prop := headW L = if (L.drop 3).all isName = true then some (n, L.drop 3) else none

set_option maxRecDepth 100000 in
set_option linter.unusedSimpArgs false in
set_option maxHeartbeats 8000000 in
theorem rhead_any (w : World) (b : List UInt8) (hb : b.length ≤ 10000000) : Calls Tryd.prog 27 #[.string ⟨b.toArray⟩] w (RHeadPost w (headW (blanksL b))) := by
  have hw := rwords_any w b hb
  obtain ⟨e0, l0, hL0⟩ := blanks_ne b
  obtain ⟨L, hL⟩ : ∃ L, blanksL b = L := ⟨_, rfl⟩
  rw [hL] at hw hL0 ⊢
  obtain ⟨RR, hRR⟩ : ∃ RR, headW L = RR := ⟨_, rfl⟩
  rw [hRR]
  have HR := shut hRR
  clear hRR hL
  go_enter Tryd.func27, Tryd.ntmps27
  go_wp2_with fail
  refine hw.mono ?_
  rintro e w1 ⟨ao, c, rfl, K, R, -, hx, hlen⟩
  clear hw
  obtain ⟨k, hk⟩ : ∃ k, L.length = k := ⟨_, rfl⟩
  rw [hk] at hlen ⊢
  have HX : Shut (∀ x ∈ L, x.length ≤ 10000000) := shut (fun x h => Nat.le_trans (hx x h) hb)
  clear hx
  subst hL0
  obtain ⟨g, o, rfl⟩ := R.head (by simp)
  have hcap := R.le
  rw [List.length_map, hk] at hcap
  have hcm := R.max
  unfold maxLen at hcm
  have c0 := R.cell (j := 0) (v := txV e0) rfl
  rw [Nat.add_zero] at c0
  unfold txV at c0
  have fin : ∀ wz, Keeps Nothing w wz → RR = none → RHeadPost w RR (.returned (.tuple #[.string ⟨#[]⟩, .slice none 0 0, .bool false])) wz := fun wz kz hz => by
    rw [hz]
    exact ⟨rfl, kz⟩
  have FIN := shut fin
  have HRW := shut R
  clear fin R
  cases l0 with
  | nil =>
    have hk1 : k = 1 := hk.symm
    have m1 : (k : Int) < 2 := by omega
    have hz : RR = none := HR.out.symm
    clear HR hk HRW
    go_wp2_with fail
    go_ret3
    exact FIN.out _ K hz
  | cons n r =>
    have hk2 : k = r.length + 2 := by rw [← hk]; rfl
    have m1 : ¬ (k : Int) < 2 := by omega
    have m10 : (0 : Int) < k := by omega
    have m11 : (1 : Int) < k := by omega
    by_cases he : e0 = [61, 61]
    rotate_left
    · have hq : (e0 == [61, 61]) = false := by rw [beq_eq_false_iff_ne]; exact he
      have hz : RR = none := by rw [← HR.out]; exact headW_ne he
      clear HR hk HRW
      go_wp2_with fail
      go_ret3
      exact FIN.out _ K hz
    subst he
    have c1 := HRW.out.cell (j := 1) (v := txV n) rfl
    unfold txV at c1
    have hq : (([61, 61] : List UInt8) == [61, 61]) = true := rfl
    have hn := rname_any w1 n (by have := HX.out n (by simp); omega)
    by_cases hnn : isName n = true
    rotate_left
    · have hz : RR = none := by rw [← HR.out]; exact headW_noname hnn
      rw [Bool.not_eq_true] at hnn
      rw [hnn] at hn
      clear HR hk HRW
      go_wp2_with fail
      refine hn.mono ?_
      rintro e w2 ⟨rfl, k2⟩
      clear hn
      go_wp2_with fail
      go_ret3
      exact FIN.out _ (K.trans k2 (fun _ h _ => h)) hz
    rw [hnn] at hn
    -- THE END
    have HNN := shut hnn
    cases r with
    | nil =>
      obtain ⟨L, hL⟩ : ∃ L, [[61, 61], n] = L := ⟨_, rfl⟩
      have HOK : Shut (HeadOk n L) := shut (by unfold HeadOk; rw [← hL, headW_two, if_pos ⟨rfl, hnn⟩]; rfl)
      have HL1 : Shut (L[1]? = some n) := shut (by rw [← hL]; rfl)
      rw [hL] at hk HR HX HRW
      have HLK := shut hk
      have hk22 : k = 2 := by rw [hk2]; rfl
      clear hk hL hk2
      have m3 : ((k : Int) == 3) = false := by rw [beq_eq_false_iff_ne]; omega
      have m3' : ¬ (k : Int) = 3 := by omega
      have m4 : ¬ (3 : Int) < k := by omega
      have HK2 := shut hk22
      clear hk22
      go_wp2_with fail
      refine hn.mono ?_
      rintro e w2 ⟨rfl, k2⟩
      clear hn
      have K2 := K.trans k2 (fun _ h _ => h)
      have HRW2 := shut (HRW.out.keepsN k2)
      clear HRW
      clear c0 c1 K k2
      go_wp2_with fail
      go_loopw [6] (fun s6 wx => ∃ i : Nat, s6 = .int .i64 i ∧ 3 ≤ i ∧ (i ≤ k ∨ i = 3) ∧ Keeps Nothing w2 wx ∧ Shut (((L.drop 3).take (i - 3)).all isName = true)) (fun s6 _ => k - (intOf s6).toNat)
      case atStart => exact ⟨3, rfl, Nat.le_refl _, .inr rfl, Keeps.refl _ _, shut (by simp)⟩
      case round =>
        obtain ⟨i, rfl, hi3, hik, KL, HA⟩ := hrel
        by_cases hlt : i < k
        rotate_left
        · have q1 : ¬ (i : Int) < k := by omega
          have hall : (L.drop 3).all isName = true := by
            have := HA.out
            rwa [List.take_of_length_le (by rw [List.length_drop, HLK.out]; omega)] at this
          have hz : RR = some (n, L.drop 3) := by
            rw [← HR.out, HOK.out, if_pos hall]
          have RF := HRW2.out.keepsN KL
          have c1 : wr.drew.cell? ⟨g, o + 1, none⟩ = some (.string ⟨n.toArray⟩) := by
            have kdr : Keeps Nothing wr wr.drew := (Keeps.refl Nothing wr).drew
            exact (RF.keepsN kdr).cell (j := 1) (by rw [List.getElem?_map, HL1.out]; rfl)
          have HALL := shut hall
          have HZ := shut hz
          clear hall hz HA HR HOK
          have kdr : Keeps Nothing wr wr.drew := (Keeps.refl Nothing wr).drew
          have L0 : L.drop 3 = [] := List.drop_of_length_le (by rw [HLK.out, HK2.out]; decide)
          have dr3 : L.drop 2 = L.drop 3 := by rw [List.drop_of_length_le (by rw [HLK.out, HK2.out]; exact Nat.le_refl _), L0]
          have LEN : (L.drop 3).length = k - 2 := by rw [L0, HK2.out]; rfl
          have RC := RF.keepsN kdr
          have L0h := shut L0
          have RCh := shut RC
          have dr3h := shut dr3
          have LENh := shut LEN
          clear L0 RC dr3 LEN
          by_cases hcd : c = 2
          · skip
            have hmn : min (3 : Int) (k : Int) = 2 := by have := HK2.out; omega
            skip
            go_wp2_with fail
            refine wp_region_mix (fun V => V.cell? ⟨g, o + 1, none⟩ = some (.string ⟨n.toArray⟩)) [(true, 0), (true, 1), (true, 2), (true, 3), (true, 4), (true, 5), (true, 6), (true, 7), (true, 8), (true, 9), (true, 10)] (by kernel_rfl) (by kernel_rfl) c1 ?_
            simp only [mixItems, List.map_cons, List.map_nil, List.getD_cons_zero, List.getD_cons_succ]
            iterate 2
              refine wpMix_free (fun K hK => ?_); go_simp; refine hK _ ?_; clear hK K
            refine wpMix_yield (v := .string ⟨n.toArray⟩) (fun V hV => ?_) (fun K hK => ?_)
            · go_simp
            go_simp
            refine hK _ ?_
            clear hK K
            repeat (refine wpMix_free (fun K hK => ?_); go_simp; refine hK _ ?_; clear hK K)
            refine wpMix_nil ?_
            go_wp2_with fail
            go_ret3
            rw [HZ.out]
            refine ⟨_, _, ?_, (K2.trans KL (fun _ h _ => h)).trans kdr (fun _ h _ => h), by rw [L0h.out]; exact RCh.out.empty, HNN.out, HALL.out⟩
            rw [LENh.out]
            rfl
          · have hmn : min (3 : Int) (k : Int) = 2 := by have := HK2.out; omega
            skip
            go_wp2_with fail
            refine wp_region_mix (fun V => V.cell? ⟨g, o + 1, none⟩ = some (.string ⟨n.toArray⟩)) [(true, 0), (true, 1), (true, 2), (true, 3), (true, 4), (true, 5), (true, 6), (true, 7), (true, 8), (true, 9), (true, 10)] (by kernel_rfl) (by kernel_rfl) c1 ?_
            simp only [mixItems, List.map_cons, List.map_nil, List.getD_cons_zero, List.getD_cons_succ]
            iterate 2
              refine wpMix_free (fun K hK => ?_); go_simp; refine hK _ ?_; clear hK K
            refine wpMix_yield (v := .string ⟨n.toArray⟩) (fun V hV => ?_) (fun K hK => ?_)
            · go_simp
            go_simp
            refine hK _ ?_
            clear hK K
            repeat (refine wpMix_free (fun K hK => ?_); go_simp; refine hK _ ?_; clear hK K)
            refine wpMix_nil ?_
            go_wp2_with fail
            go_ret3
            rw [HZ.out]
            refine ⟨_, _, ?_, (K2.trans KL (fun _ h _ => h)).trans kdr (fun _ h _ => h), by have := RCh.out.drop 2 (by omega); rw [← List.map_drop, dr3h.out] at this; exact this, HNN.out, HALL.out⟩
            rw [LENh.out]
            rfl
        have q1 : (i : Int) < k := by omega
        have q0 : (0 : Int) ≤ i := by omega
        obtain ⟨x, hx⟩ : ∃ x, L[i]? = some x := ⟨_, List.getElem?_eq_getElem (by rw [HLK.out]; exact hlt)⟩
        have hxc := (HRW2.out.keepsN KL).cell (j := i) (v := txV x) (by rw [List.getElem?_map, hx]; rfl)
        unfold txV at hxc
        have hxn := rname_any wr x (by have := HX.out x (List.mem_of_getElem? hx); omega)
        have hxd : (L.drop 3)[i - 3]? = some x := by rw [List.getElem?_drop, show 3 + (i - 3) = i by omega]; exact hx
        by_cases hxa : isName x = true
        rotate_left
        · have hz : RR = none := by
            rw [← HR.out, HOK.out, if_neg]
            intro q
            rw [List.all_eq_true] at q
            exact hxa (q x (List.mem_of_getElem? hxd))
          rw [Bool.not_eq_true] at hxa
          rw [hxa] at hxn
          clear HA HR HOK hx hxd
          go_wp2_with fail
          refine hxn.mono ?_
          rintro e w3 ⟨rfl, k3⟩
          clear hxn
          go_wp2_with fail
          go_ret3
          exact FIN.out _ ((K2.trans KL (fun _ h _ => h)).trans k3 (fun _ h _ => h)) hz
        · rw [hxa] at hxn
          have HA2 : Shut (((L.drop 3).take (i + 1 - 3)).all isName = true) := shut (by rw [show i + 1 - 3 = (i - 3) + 1 by omega]; exact all_upto hxd HA.out hxa)
          clear HA hx hxd hxa
          go_wp2_with fail
          refine hxn.mono ?_
          rintro e w3 ⟨rfl, k3⟩
          clear hxn
          go_wp2_with fail
          go_roundw
          case rel => exact ⟨i + 1, by go_num, by omega, by omega, KL.trans k3 (fun _ h _ => h), HA2⟩
          case measure => (simp [intOf]; try omega)
    | cons cc r =>
      cases r with
      | nil =>
        have hk3 : k = 3 := hk2
        have m3 : ((k : Int) == 3) = true := by rw [beq_iff_eq]; omega
        clear m3
        have HK3 := shut hk3
        have m3' : ((k : Int) == 3) = true := by rw [beq_iff_eq]; omega
        clear hk3 hk2
        have hz : RR = none := HR.out.symm
        clear HR hk
        go_wp2_with fail
        refine hn.mono ?_
        rintro e w2 ⟨rfl, k2⟩
        clear hn
        have K2 := K.trans k2 (fun _ h _ => h)
        have HRW2 := shut (HRW.out.keepsN k2)
        clear HRW
        go_wp2_with fail
        go_ret3
        exact FIN.out _ K2 hz
      | cons d ds =>
        have hk4 : k = ds.length + 4 := hk2
        have m3 : ((k : Int) == 3) = false := by rw [beq_eq_false_iff_ne]; omega
        have m3' : ¬ (k : Int) = 3 := by omega
        have m4 : (3 : Int) < k := by omega
        have m12 : (2 : Int) < k := by omega
        clear hk4 hk2
        have hcc := HRW.out.cell (j := 2) (v := txV cc) rfl
        unfold txV at hcc
        by_cases hc : cc = [58]
        rotate_left
        · have hqc : (cc == [58]) = false := by rw [beq_eq_false_iff_ne]; exact hc
          have hz : RR = none := by rw [← HR.out, headW_many, if_neg (fun q => hc q.2.2.1)]
          clear HR hk
          go_wp2_with fail
          refine hn.mono ?_
          rintro e w2 ⟨rfl, k2⟩
          clear hn
          have K2 := K.trans k2 (fun _ h _ => h)
          have HRW2 := shut (HRW.out.keepsN k2)
          clear HRW
          have hcc := k2.cell hcc (fun h => h)
          go_wp2_with fail
          go_ret3
          exact FIN.out _ K2 hz
        subst hc
        have hqc : (([58] : List UInt8) == [58]) = true := rfl
        obtain ⟨L, hL⟩ : ∃ L, [61, 61] :: n :: [58] :: d :: ds = L := ⟨_, rfl⟩
        have HOK : Shut (HeadOk n L) := shut (by
          unfold HeadOk
          rw [← hL, headW_many]
          show _ = if (d :: ds).all isName = true then some (n, d :: ds) else none
          by_cases hh : (d :: ds).all isName = true
          · rw [if_pos hh, if_pos ⟨rfl, hnn, rfl, hh⟩]
          · rw [if_neg hh, if_neg (fun q => hh q.2.2.2)])
        have HL1 : Shut (L[1]? = some n) := shut (by rw [← hL]; rfl)
        rw [hL] at hk HR HX HRW
        have HLK := shut hk
        clear hk hL
        go_wp2_with fail
        refine hn.mono ?_
        rintro e w2 ⟨rfl, k2⟩
        clear hn
        have K2 := K.trans k2 (fun _ h _ => h)
        have HRW2 := shut (HRW.out.keepsN k2)
        clear HRW
        have hcc := k2.cell hcc (fun h => h)
        clear c0 c1 K k2
        go_wp2_with fail
        go_loopw [6] (fun s6 wx => ∃ i : Nat, s6 = .int .i64 i ∧ 3 ≤ i ∧ (i ≤ k ∨ i = 3) ∧ Keeps Nothing w2 wx ∧ Shut (((L.drop 3).take (i - 3)).all isName = true)) (fun s6 _ => k - (intOf s6).toNat)
        case atStart => exact ⟨3, rfl, Nat.le_refl _, .inr rfl, Keeps.refl _ _, shut (by simp)⟩
        case round =>
          obtain ⟨i, rfl, hi3, hik, KL, HA⟩ := hrel
          by_cases hlt : i < k
          rotate_left
          · have q1 : ¬ (i : Int) < k := by omega
            have hall : (L.drop 3).all isName = true := by
              have := HA.out
              rwa [List.take_of_length_le (by rw [List.length_drop, HLK.out]; omega)] at this
            have hz : RR = some (n, L.drop 3) := by
              rw [← HR.out, HOK.out, if_pos hall]
            have RF := HRW2.out.keepsN KL
            have c1 : wr.drew.cell? ⟨g, o + 1, none⟩ = some (.string ⟨n.toArray⟩) := by
              have kdr : Keeps Nothing wr wr.drew := (Keeps.refl Nothing wr).drew
              exact (RF.keepsN kdr).cell (j := 1) (by rw [List.getElem?_map, HL1.out]; rfl)
            have HALL := shut hall
            have HZ := shut hz
            clear hall hz HA HR HOK
            have kdr : Keeps Nothing wr wr.drew := (Keeps.refl Nothing wr).drew
            have hcd : ¬ c = 3 := by omega
            have m13 : (3 : Int) ≤ k := by omega
            have LENh : Shut ((L.drop 3).length = k - 3) := shut (by rw [List.length_drop, HLK.out])
            have RCh := shut (RF.keepsN kdr)
            have hmn : min (3 : Int) (k : Int) = 3 := by omega
            skip
            go_wp2_with fail
            refine wp_region_mix (fun V => V.cell? ⟨g, o + 1, none⟩ = some (.string ⟨n.toArray⟩)) [(true, 0), (true, 1), (true, 2), (true, 3), (true, 4), (true, 5), (true, 6), (true, 7), (true, 8), (true, 9), (true, 10)] (by kernel_rfl) (by kernel_rfl) c1 ?_
            simp only [mixItems, List.map_cons, List.map_nil, List.getD_cons_zero, List.getD_cons_succ]
            iterate 2
              refine wpMix_free (fun K hK => ?_); go_simp; refine hK _ ?_; clear hK K
            refine wpMix_yield (v := .string ⟨n.toArray⟩) (fun V hV => ?_) (fun K hK => ?_)
            · go_simp
            go_simp
            refine hK _ ?_
            clear hK K
            repeat (refine wpMix_free (fun K hK => ?_); go_simp; refine hK _ ?_; clear hK K)
            refine wpMix_nil ?_
            go_wp2_with fail
            go_ret3
            rw [HZ.out]
            refine ⟨_, _, ?_, (K2.trans KL (fun _ h _ => h)).trans kdr (fun _ h _ => h), by have := RCh.out.drop 3 (by omega); rw [← List.map_drop] at this; exact this, HNN.out, HALL.out⟩
            rw [LENh.out]
            rfl
          have q1 : (i : Int) < k := by omega
          have q0 : (0 : Int) ≤ i := by omega
          obtain ⟨x, hx⟩ : ∃ x, L[i]? = some x := ⟨_, List.getElem?_eq_getElem (by rw [HLK.out]; exact hlt)⟩
          have hxc := (HRW2.out.keepsN KL).cell (j := i) (v := txV x) (by rw [List.getElem?_map, hx]; rfl)
          unfold txV at hxc
          have hxn := rname_any wr x (by have := HX.out x (List.mem_of_getElem? hx); omega)
          have hxd : (L.drop 3)[i - 3]? = some x := by rw [List.getElem?_drop, show 3 + (i - 3) = i by omega]; exact hx
          by_cases hxa : isName x = true
          rotate_left
          · have hz : RR = none := by
              rw [← HR.out, HOK.out, if_neg]
              intro q
              rw [List.all_eq_true] at q
              exact hxa (q x (List.mem_of_getElem? hxd))
            rw [Bool.not_eq_true] at hxa
            rw [hxa] at hxn
            clear HA HR HOK hx hxd
            go_wp2_with fail
            refine hxn.mono ?_
            rintro e w3 ⟨rfl, k3⟩
            clear hxn
            go_wp2_with fail
            go_ret3
            exact FIN.out _ ((K2.trans KL (fun _ h _ => h)).trans k3 (fun _ h _ => h)) hz
          · rw [hxa] at hxn
            have HA2 : Shut (((L.drop 3).take (i + 1 - 3)).all isName = true) := shut (by rw [show i + 1 - 3 = (i - 3) + 1 by omega]; exact all_upto hxd HA.out hxa)
            clear HA hx hxd hxa
            go_wp2_with fail
            refine hxn.mono ?_
            rintro e w3 ⟨rfl, k3⟩
            clear hxn
            go_wp2_with fail
            go_roundw
            case rel => exact ⟨i + 1, by go_num, by omega, by omega, KL.trans k3 (fun _ h _ => h), HA2⟩
            case measure => (simp [intOf]; try omega)

end Go.Proofs.YtiliajnijjkcdaaDoor
