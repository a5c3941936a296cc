/- Package tree: which lifetimes, places, names may be. -/
import Derived.Test.YtjbcagbnagefcaaTree3
import Derived.Test.YtjbcagbnagefcaaLex11
import Derived.Test.YtjbcagbnagefcaaShelf
import Derived.Lib.IndexMore
namespace Go.Proofs.Ytjbcagbnagefcaa
open Go.RowKit

attribute [local go_sem ↓] exec_mid_ty exec_store_ty exec_mid_pl exec_store_pl exec_mid_opr exec_store_opr exec_mid_val exec_store_val exec_mid_st exec_store_st exec_mid_fld exec_store_fld exec_mid_str exec_store_str exec_mid_lif exec_store_lif exec_mid_fun exec_store_fun exec_mid_cr exec_store_cr
attribute [local go_sem] rowOk_new World.setRow_alloc_new

/-- internal/bytealg.MaxLen holds some number. -/
def MaxV (w : World) : Prop := ∃ m : Int, w.cell? ⟨0, 0, none⟩ = some (.int .i64 m)
theorem MaxV.keeps {w w' : World} (h : MaxV w) (k : Keeps Nothing w w') : MaxV w' := by
  obtain ⟨m, h⟩ := h
  exact ⟨m, k.cell h (fun h => h)⟩
theorem word_life : ∀ t ∈ wordsL, isLife t = true := by decide
theorem life_or (s : List UInt8) : (isName s || isWord s) = isLife s := by
  rw [isName_life]
  by_cases h : isWord s = true
  · have h2 : isLife s = true := word_life s (by unfold isWord at h; exact List.elem_iff.1 (by simpa using h))
    rw [h, h2]
    rfl
  · rw [Bool.not_eq_true] at h
    rw [h]
    simp

set_option maxHeartbeats 1000000 in
theorem tlife_any (w : World) (s : List UInt8) (hs : s.length ≤ bigN) : Calls Try.prog 47 #[.string ⟨s.toArray⟩] w fun e w' => e = .returned (.bool (isLife s)) ∧ w' = w := by
  have h1 := lname_any w s (by unfold bigN at hs; omega)
  have h2 := word_any w s
  have h3 := life_or s
  obtain ⟨a, ha⟩ : ∃ a, isName s = a := ⟨_, rfl⟩
  obtain ⟨b, hb⟩ : ∃ b, isWord s = b := ⟨_, rfl⟩
  rw [ha] at h1 h3
  rw [hb] at h2 h3
  have H3 := shut h3
  clear h3 ha hb
  go_enter Try.func47, Try.ntmps47
  go_wp2_with fail
  refine h1.mono ?_
  rintro e w1 ⟨rfl, rfl⟩
  clear h1
  cases a with
  | true =>
    go_wp2_with fail
    go_ret
    exact ⟨by rw [← H3.out]; rfl, rfl⟩
  | false =>
    go_wp2_with fail
    refine h2.mono ?_
    rintro e w2 ⟨rfl, rfl⟩
    go_wp2_with fail
    go_ret
    exact ⟨by rw [← H3.out]; rfl, rfl⟩

/-- Lifetimes that may be. -/
def LivesP (l : List (List UInt8)) : Prop := (∀ s ∈ l, isLife s = true) ∧ l.length ≤ 64
theorem all_take {α : Type} {l : List α} {P : α → Prop} {t : Nat} {a : α} (ha : l[t]? = some a) (h : ∀ s ∈ l.take t, P s) (hp : P a) : ∀ s ∈ l.take (t + 1), P s := by
  rw [List.take_add_one, ha]
  intro s hs
  rcases List.mem_append.1 hs with hs | hs
  · exact h s hs
  · obtain rfl : s = a := by simpa using hs
    exact hp
theorem all_of_take {α : Type} {l : List α} {P : α → Prop} {n : Nat} (hn : l.length = n) (h : ∀ s ∈ l.take n, P s) : ∀ s ∈ l, P s := by
  rwa [List.take_of_length_le (Nat.le_of_eq hn)] at h

set_option maxRecDepth 100000 in
set_option maxHeartbeats 2000000 in
theorem lives_any (w : World) {S : Nat → Prop} {ao : Option Addr} {l : List (List UInt8)} (c : Nat) (h : SlIs S w 1 TxIs ao l) : Calls Try.prog 45 #[.slice ao l.length c] w (Tells w (LivesP l)) := by
  have hl := h.1
  unfold bigN at hl
  have HX := shut h
  clear h
  obtain ⟨n, hn⟩ : ∃ n, l.length = n := ⟨_, rfl⟩
  rw [hn] at hl ⊢
  have HN := shut hn
  clear hn
  go_enter Try.func45, Try.ntmps45
  go_wp2_with fail
  go_loopw [4, 7] (fun s4 s7 wx => ∃ t : Nat, s7 = .int .i64 t ∧ t ≤ n ∧ Keeps Nothing w wx ∧ Shut (∀ s ∈ l.take t, isLife s = true)) (fun _ s7 _ => n - (intOf s7).toNat)
  case atStart => exact ⟨0, rfl, Nat.zero_le _, Keeps.refl _ _, shut (by simp)⟩
  case round =>
    obtain ⟨t, rfl, ht, K, HT⟩ := hrel
    by_cases hlt : t < n
    · obtain ⟨a, ha⟩ : ∃ a, l[t]? = some a := ⟨_, List.getElem?_eq_getElem (by rw [HN.out]; exact hlt)⟩
      obtain ⟨g1, o1, rfl, e1, hal⟩ := tx_cell (HX.out.keeps K (fun _ _ h => h) (fun _ h => h) (fun _ _ _ h => h)) ha
      have hc := fun W => tlife_any W a hal
      have HA := shut ha
      clear ha hal
      have m0 : (0 : Int) ≤ t := by omega
      have m1 : (t : Int) < n := by omega
      obtain ⟨z, hz⟩ : ∃ z, isLife a = z := ⟨_, rfl⟩
      rw [hz] at hc
      have HZ := shut hz
      clear hz
      go_wp2_with fail
      refine (hc _).mono ?_
      rintro e w1 ⟨rfl, rfl⟩
      clear hc e1
      cases z with
      | true =>
        have HT2 := shut (all_take HA.out HT.out HZ.out)
        clear HZ
        go_wp2_with fail
        go_roundw
        case rel => exact ⟨t + 1, by go_num, by omega, K, HT2⟩
        case measure => simp [intOf]; omega
      | false =>
        have hno : Shut (¬ LivesP l) := shut (fun h => by have h2 := h.1 a (List.mem_of_getElem? HA.out); rw [HZ.out] at h2; cases h2)
        clear HZ
        go_wp2_with fail
        go_ret
        exact tells_f hno.out K
    · obtain rfl : t = n := by omega
      have m1 : ¬ (t : Int) < t := by omega
      have HALL := shut (all_of_take HN.out HT.out)
      by_cases h64 : t ≤ 64
      · have m2 : (t : Int) ≤ 64 := by omega
        go_wp2_with fail
        go_ret
        exact tells_t ⟨HALL.out, by rw [HN.out]; exact h64⟩ K
      · have m2 : ¬ (t : Int) ≤ 64 := by omega
        have hno : Shut (¬ LivesP l) := shut (fun h => h64 (by rw [← HN.out]; exact h.2))
        clear HALL
        go_wp2_with fail
        go_ret
        exact tells_f hno.out K

/-- A name, or two with :: between. -/
def DoubleP (s : List UInt8) : Prop := isName (Lib.cut s [58, 58]).1 = true ∧ ((Lib.cut s [58, 58]).2.2 = true → isName (Lib.cut s [58, 58]).2.1 = true)
theorem cut_len (s p : List UInt8) : (Lib.cut s p).1.length ≤ s.length ∧ (Lib.cut s p).2.1.length ≤ s.length := by
  unfold Lib.cut
  split
  · simp only [List.length_take, List.length_drop]; omega
  · exact ⟨Nat.le_refl _, Nat.zero_le _⟩

set_option maxHeartbeats 1000000 in
theorem double_any (w : World) (hM : MaxV w) (s : List UInt8) (hs : s.length ≤ bigN) : Calls Try.prog 75 #[.string ⟨s.toArray⟩] w (Tells w (DoubleP s)) := by
  obtain ⟨m, hm⟩ := hM
  have hcl := cut_len s [58, 58]
  have hcut := Try.strings_Cut ⟨s.toArray⟩ ⟨#[58, 58]⟩ m w (by show s.toArray.size < _; rw [List.size_toArray]; unfold bigN at hs; omega) hm
  have hP : DoubleP s ↔ isName (Lib.cut s [58, 58]).1 = true ∧ ((Lib.cut s [58, 58]).2.2 = true → isName (Lib.cut s [58, 58]).2.1 = true) := Iff.rfl
  simp only [] at hcut
  obtain ⟨⟨A, B, C⟩, hc⟩ : ∃ x, Lib.cut s [58, 58] = x := ⟨_, rfl⟩
  rw [hc] at hcut hP hcl
  simp only at hcut hP hcl
  have HP := shut hP
  clear hP hc hm
  have h1 := fun W => lname_any W A (by unfold bigN at hs; omega)
  have h2 := fun W => lname_any W B (by unfold bigN at hs; omega)
  obtain ⟨a, ha⟩ : ∃ a, isName A = a := ⟨_, rfl⟩
  obtain ⟨b, hb⟩ : ∃ b, isName B = b := ⟨_, rfl⟩
  rw [ha] at h1 HP
  rw [hb] at h2 HP
  clear ha hb
  go_enter Try.func75, Try.ntmps75
  go_wp2_with fail
  refine hcut.mono ?_
  rintro e w1 ⟨rfl, q, rfl⟩
  have K : Keeps Nothing w (w.drewN q) := (Keeps.refl Nothing w).drewN q
  clear hcut
  generalize w.drewN q = w1 at *
  go_wp2_with fail
  refine (h1 _).mono ?_
  rintro e w2 ⟨rfl, rfl⟩
  clear h1
  cases a with
  | false =>
    have hno : Shut (¬ DoubleP s) := shut (fun h => by have h2 := (HP.out.1 h).1; cases h2)
    clear HP
    go_wp2_with fail
    go_ret
    exact tells_f hno.out K
  | true =>
    cases C with
    | false =>
      have hyes : Shut (DoubleP s) := shut (HP.out.2 ⟨rfl, fun h => by cases h⟩)
      clear HP
      go_wp2_with fail
      go_ret
      exact tells_t hyes.out K
    | true =>
      have hz : Shut (b = true ↔ DoubleP s) := shut ⟨fun h => HP.out.2 ⟨rfl, fun _ => h⟩, fun h => (HP.out.1 h).2 rfl⟩
      clear HP
      go_wp2_with fail
      refine (h2 _).mono ?_
      rintro e w3 ⟨rfl, rfl⟩
      go_wp2_with fail
      go_ret
      exact tells_z hz.out K

end Go.Proofs.Ytjbcagbnagefcaa
