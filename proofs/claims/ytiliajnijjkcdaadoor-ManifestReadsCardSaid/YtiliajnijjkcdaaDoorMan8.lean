/- Package manifest: twice; wrong. -/
import Derived.Test.YtiliajnijjkcdaaDoorMan7
namespace Go.Proofs.YtiliajnijjkcdaaDoor
open Go.RowKit

attribute [local go_sem ↓] exec_mid_src exec_store_src
attribute [local go_sem] rowOk_new World.setRow_alloc_new aggOk_src

theorem bytes_inj {a b : List UInt8} : (⟨a.toArray⟩ : ByteArray) = ⟨b.toArray⟩ ↔ a = b := by
  constructor
  · intro h
    have := congrArg (fun x : ByteArray => x.data.toList) h
    simpa using this
  · rintro rfl; rfl
theorem contains_tx (w : World) {S : Nat → Prop} {ao : Option Addr} {l : List (List UInt8)} (i c : Nat) (hi : i ≤ l.length) (h : SlIs S w 1 TxIs ao l) (x : List UInt8) :
    Calls Tryd.prog 62 #[.slice ao i c, .string ⟨x.toArray⟩] w fun e w' => e = .returned (.bool (decide (x ∈ l.take i))) ∧ w' = w := by
  have hl := h.1
  unfold bigN at hl
  by_cases h0 : i = 0
  · subst h0
    have hc := Tryd.slices_Contains_string_empty ao c ⟨x.toArray⟩ w
    simpa using hc
  · obtain ⟨b, o, rfl, hr⟩ := h.head (by omega)
    have hcell : ∀ j, j < (l.map fun s => (⟨s.toArray⟩ : ByteArray)).length → w.cell? ⟨b, o + j, none⟩ = some (.string ((l.map fun s => (⟨s.toArray⟩ : ByteArray)).getD j ByteArray.empty)) := by
      intro j hj
      rw [List.length_map] at hj
      obtain ⟨d, hd⟩ : ∃ d, l[j]? = some d := ⟨_, List.getElem?_eq_getElem hj⟩
      obtain ⟨b', o', e, hc, _⟩ := tx_cell h hd
      simp only [Option.some.injEq, Addr.mk.injEq] at e
      obtain ⟨rfl, rfl, _⟩ := e
      rw [hc]
      simp [List.getD, hd]
    have hc := Tryd.slices_Contains_string b o i c (l.map fun s => (⟨s.toArray⟩ : ByteArray)) ⟨x.toArray⟩ w (by rw [List.length_map]; exact hi) (by omega) hcell
    have e : Lib.containsS ((l.map fun s => (⟨s.toArray⟩ : ByteArray)).take i) ⟨x.toArray⟩ = decide (x ∈ l.take i) := by
      rw [Bool.eq_iff_iff, Lib.containsS_iff, decide_eq_true_iff, ← List.map_take, List.mem_map]
      constructor
      · rintro ⟨y, hy, he⟩
        rw [bytes_inj] at he
        rwa [← he]
      · intro hx
        exact ⟨x, hx, rfl⟩
    rwa [e] at hc

/-- What a head has twice. -/
def Dup (nm : List UInt8) (l : List (List UInt8)) : Prop := nm ∈ l ∨ ¬ l.Nodup
theorem nodup_more {α : Type} {l : List α} {t : Nat} {a : α} (ha : l[t]? = some a) (h : (l.take t).Nodup) (hn : a ∉ l.take t) : (l.take (t + 1)).Nodup := by
  rw [List.take_add_one, ha, List.nodup_append]
  refine ⟨h, by simp, ?_⟩
  intro x hx y hy
  simp at hy
  subst hy
  rintro rfl
  exact hn hx
theorem nodup_not {α : Type} {l : List α} {t : Nat} {a : α} (ha : l[t]? = some a) (hn : a ∈ l.take t) : ¬ l.Nodup := by
  intro h
  have hlt := (List.getElem?_eq_some_iff.1 ha).1
  have h2 : (l.take (t + 1)).Nodup := h.sublist (List.take_sublist _ _)
  rw [List.take_add_one, ha, List.nodup_append] at h2
  exact h2.2.2 a hn a (by simp) rfl

set_option maxRecDepth 100000 in
set_option linter.unusedSimpArgs false in
set_option maxHeartbeats 4000000 in
theorem twice_any {S S' : Nat → Prop} (l : List SrcD) (x : SrcD) (w : World) {ao : Option Addr} (c : Nat) (cs : List Value) (hl : SlIs S w 3 (SrcIs S w) ao l) (hx : SrcIs S' w x cs) :
    Calls Tryd.prog 44 #[.slice ao l.length c, .agg cs.toArray] w (Tells w (Twice l x.name x.deps)) := by
  obtain ⟨x_name, x_deps, x_text⟩ := x
  have ag1 := agg_ok hx.len hx.one
  obtain ⟨q, d, rfl, hxn, hxt, ⟨hcd, hcm⟩, hxd⟩ := hx
  unfold maxLen at hcm
  simp only at ag1 hxd hxn hcd ⊢
  unfold Twice
  unfold txV at *
  have kd : Keeps Nothing w (w.alloc (.cells #[.string ⟨x_name.toArray⟩, .slice q x_deps.length d, .string ⟨x_text.toArray⟩] 43)) := (Keeps.refl Nothing w).alloc _
  have B := blk_new w #[.string ⟨x_name.toArray⟩, .slice q x_deps.length d, .string ⟨x_text.toArray⟩] 43
  have hl1 := hl.keeps kd (fun _ _ h => h) (fun _ h => h) (fun _ _ _ h => h.keeps kd (fun _ _ h => h) (fun _ h => h))
  have e0 := blk_cell B 0 (v := .string ⟨x_name.toArray⟩) rfl
  have hc := contains_src 61 ent_twice1 (.pointer (some ⟨w.heap.size, 0, none⟩)) (p := fun a => a.name = x_name) (w.alloc (.cells #[.string ⟨x_name.toArray⟩, .slice q x_deps.length d, .string ⟨x_text.toArray⟩] 43))
    (fun a _ W cs hW ha => twice1_any a W cs ha w.heap.size x_name (hW.cell e0 (fun h => h))) c hl1
  have HD := shut (hxd.keeps kd (fun _ _ h => h) (fun _ h => h) (fun _ _ _ h => h))
  have HL : Shut (l = l) := shut rfl
  have hdn := hxd.1
  unfold bigN at hdn
  clear hxd hl hl1
  obtain ⟨P, hP⟩ : ∃ P, P = ((∃ a ∈ l, a.name = x_name) ∨ x_name ∈ x_deps ∨ ¬ x_deps.Nodup) := ⟨_, rfl⟩
  obtain ⟨P1, hP1⟩ : ∃ P1, P1 = (∃ a ∈ l, a.name = x_name) := ⟨_, rfl⟩
  rw [← hP]
  rw [← hP1] at hc hP
  have HP := shut hP
  clear hP hP1 HL
  go_enter Tryd.func44, Tryd.ntmps44
  go_wp2_with fail
  refine hc.mono ?_
  rintro e w1 ⟨⟨z, rfl, hz⟩, k1⟩
  have KW := kd.trans k1 (fun _ h _ => h)
  have B := k1.blk B (fun h => h)
  have HZ := shut hz
  have HD := shut (HD.out.keeps k1 (fun _ _ h => h) (fun _ h => h) (fun _ _ _ h => h))
  clear hc hz e0 kd
  cases z with
  | true =>
    have hy : Shut P := shut (by rw [HP.out]; exact .inl (HZ.out.1 rfl))
    clear HP HZ HD
    go_wp2_with fail
    go_ret
    exact tells_t hy.out KW
  | false =>
    have HP2 : Shut (P ↔ x_name ∈ x_deps ∨ ¬ x_deps.Nodup) := shut (by
      rw [HP.out]
      exact ⟨fun h => h.resolve_left (fun q => by have := HZ.out.2 q; cases this), .inr⟩)
    clear HP HZ
    obtain ⟨n, hn⟩ : ∃ n, x_deps.length = n := ⟨_, rfl⟩
    rw [hn] at B hdn
    have HN := shut hn
    have e0 := blk_cell B 0 (v := .string ⟨x_name.toArray⟩) rfl
    have e1 := blk_cell B 1 (v := .slice q n d) rfl
    rw [hn] at hcd
    clear hn
    go_wp2_with fail
    go_loopw [5, 6, 13] (fun _ _ s13 wx => ∃ t : Nat, s13 = .int .i64 t ∧ t ≤ n ∧ Keeps Nothing w1 wx ∧ Shut ((x_deps.take t).Nodup ∧ ¬ x_name ∈ x_deps.take t)) (fun _ _ s13 _ => n - (intOf s13).toNat)
    case atStart => exact ⟨0, rfl, Nat.zero_le _, Keeps.refl _ _, shut (by simp)⟩
    case round =>
      obtain ⟨t, rfl, ht, K, HT⟩ := hrel
      by_cases hlt : t < n
      rotate_left
      · obtain rfl : t = n := by omega
        have m1 : ¬ (t : Int) < t := by omega
        have hno : Shut (¬ P) := shut (fun q => by
          have h1 := HT.out
          rw [List.take_of_length_le (Nat.le_of_eq HN.out)] at h1
          rcases HP2.out.1 q with q | q
          · exact h1.2 q
          · exact q h1.1)
        clear HP2 HT e0 e1
        go_wp2_with fail
        go_ret
        exact tells_f hno.out (KW.trans K (fun _ h _ => h))
      have B2 := K.blk B (fun h => h)
      have f0 := blk_cell B2 0 (v := .string ⟨x_name.toArray⟩) rfl
      have f1 := blk_cell B2 1 (v := .slice q n d) rfl
      have HD2 := shut (HD.out.keeps K (fun _ _ h => h) (fun _ h => h) (fun _ _ _ h => h))
      obtain ⟨a, ha⟩ : ∃ a, x_deps[t]? = some a := ⟨_, List.getElem?_eq_getElem (by rw [HN.out]; exact hlt)⟩
      have HA := shut ha
      obtain ⟨b1, o1, rfl, hac, -⟩ := tx_cell HD2.out ha
      have hct := contains_tx wr t d (by rw [HN.out]; omega) HD2.out a
      clear ha HD2 e0 e1 B2
      have m0 : (0 : Int) ≤ t := by omega
      have m1 : (t : Int) < n := by omega
      have m2 : (t : Int) ≤ d := by omega
      by_cases hax : a = x_name
      · subst hax
        have hq : (a == a) = true := beq_self_eq_true _
        have hy : Shut P := shut (HP2.out.2 (.inl (List.mem_of_getElem? HA.out)))
        clear HP2 HT hct HA
        go_wp2_with fail
        go_ret
        exact tells_t hy.out (KW.trans K (fun _ h _ => h))
      have hq : (a == x_name) = false := by rw [beq_eq_false_iff_ne]; exact hax
      by_cases hin : a ∈ x_deps.take t
      · have hy : Shut P := shut (HP2.out.2 (.inr (nodup_not HA.out hin)))
        rw [decide_eq_true hin] at hct
        clear HP2 HT HA hin
        go_wp2_with fail
        refine hct.mono ?_
        rintro e w3 ⟨rfl, rfl⟩
        clear hct
        go_wp2_with fail
        go_ret
        exact tells_t hy.out (KW.trans K (fun _ h _ => h))
      · have HT2 : Shut ((x_deps.take (t + 1)).Nodup ∧ ¬ x_name ∈ x_deps.take (t + 1)) := shut ⟨nodup_more HA.out HT.out.1 hin, by
          rw [List.take_add_one, HA.out]
          intro q
          rcases List.mem_append.1 q with q | q
          · exact HT.out.2 q
          · simp at q; exact hax q.symm⟩
        rw [decide_eq_false hin] at hct
        clear HT HA hin hax
        go_wp2_with fail
        refine hct.mono ?_
        rintro e w3 ⟨rfl, rfl⟩
        clear hct
        go_wp2_with fail
        go_roundw
        case rel => exact ⟨t + 1, by go_num, by omega, K, HT2⟩
        case measure => simp [intOf]; omega

set_option maxRecDepth 100000 in
set_option linter.unusedSimpArgs false in
set_option maxHeartbeats 4000000 in
theorem wrong_bad (l : Value) (C : Array Value) (w : World) : Calls Tryd.prog 24 #[l, .agg C, .bool false] w fun e w' => e = .returned (.int .i64 40) ∧ Keeps Nothing w w' := by
  have kd : Keeps Nothing w (w.alloc (.cells C 43)) := (Keeps.refl Nothing w).alloc _
  go_enter Tryd.func24, Tryd.ntmps24
  go_wp2_with fail
  go_ret
  exact ⟨rfl, kd⟩

set_option maxRecDepth 100000 in
set_option linter.unusedSimpArgs false in
set_option maxHeartbeats 4000000 in
theorem wrong_any {S S' : Nat → Prop} (l : List SrcD) (x : SrcD) (w : World) {ao : Option Addr} (c : Nat) (cs : List Value) (hl : SlIs S w 3 (SrcIs S w) ao l) (hx : SrcIs S' w x cs) (h64 : l.length ≤ 64) :
    Calls Tryd.prog 24 #[.slice ao l.length c, .agg cs.toArray, .bool true] w fun e w' => e = .returned (.int .i64 (wrongL l (some (x.name, x.deps)))) ∧ Keeps Nothing w w' := by
  have kd : Keeps Nothing w (w.alloc (.cells cs.toArray 43)) := (Keeps.refl Nothing w).alloc _
  have B := blk_new w cs.toArray 43
  have hc := twice_any l x (w.alloc (.cells cs.toArray 43)) c cs (hl.keeps kd (fun _ _ h => h) (fun _ h => h) (fun _ _ _ h => h.keeps kd (fun _ _ h => h) (fun _ h => h))) (hx.keeps kd (fun _ _ h => h) (fun _ h => h))
  obtain ⟨x_name, x_deps, x_text⟩ := x
  have ag1 := agg_ok hx.len hx.one
  obtain ⟨y1, y2⟩ := tblk_mid B (show cs.toArray.size = 3 by simpa using hx.len)
  obtain ⟨q, d, hcs, -, -, -, hxd⟩ := hx
  have hdn := hxd.1
  simp only at hcs hc hdn ⊢
  unfold bigN at hdn
  have e1 : (w.alloc (.cells cs.toArray 43)).cell? ⟨w.heap.size, 1, none⟩ = some (.slice q x_deps.length d) := blk_cell B 1 (by rw [hcs]; rfl)
  obtain ⟨n, hn⟩ : ∃ n, x_deps.length = n := ⟨_, rfl⟩
  obtain ⟨m, hm⟩ : ∃ m, l.length = m := ⟨_, rfl⟩
  rw [hn] at e1 hdn
  rw [hm] at hc h64 ⊢
  have HR : Shut (wrongL l (some (x_name, x_deps)) = if 64 ≤ m ∨ 64 < n then 5 else if Twice l x_name x_deps then 23 else 0) := shut (by rw [← hm, ← hn]; rfl)
  clear hn hm hl hxd hcs
  obtain ⟨R, hR⟩ : ∃ R, R = wrongL l (some (x_name, x_deps)) := ⟨_, rfl⟩
  rw [← hR] at HR ⊢
  generalize cs.toArray = C at *
  clear hR
  by_cases h1 : m = 64
  · have hr : R = 5 := by rw [HR.out, if_pos (.inl (by omega))]
    subst hr h1
    clear HR hc
    go_enter Tryd.func24, Tryd.ntmps24
    go_wp2_with fail
    go_ret
    exact ⟨rfl, kd⟩
  have m1 : ¬ (m : Int) = 64 := by omega
  have m2 : ((m : Int) == 64) = false := by rw [beq_eq_false_iff_ne]; exact m1
  by_cases h2 : 64 < n
  · have hr : R = 5 := by rw [HR.out, if_pos (.inr h2)]
    have m3 : (64 : Int) < n := by omega
    subst hr
    clear HR hc
    go_enter Tryd.func24, Tryd.ntmps24
    go_wp2_with fail
    go_ret
    exact ⟨rfl, kd⟩
  have m3 : ¬ (64 : Int) < n := by omega
  have HRb : Shut (R = if Twice l x_name x_deps then 23 else 0) := shut (by rw [HR.out, if_neg (by omega)])
  clear HR
  go_enter Tryd.func24, Tryd.ntmps24
  go_wp2_with fail
  refine hc.mono ?_
  rintro e w1 ⟨⟨z, rfl, hz⟩, k1⟩
  have KW := kd.trans k1 (fun _ h _ => h)
  cases z with
  | true =>
    have hr : R = 23 := by rw [HRb.out, if_pos (hz.1 rfl)]
    subst hr
    clear HRb hc hz
    go_wp2_with fail
    go_ret
    exact ⟨rfl, KW⟩
  | false =>
    have hr : R = 0 := by rw [HRb.out, if_neg (fun q => by have := hz.2 q; cases this)]
    subst hr
    clear HRb hc hz
    go_wp2_with fail
    go_ret
    exact ⟨rfl, KW⟩

end Go.Proofs.YtiliajnijjkcdaaDoor
