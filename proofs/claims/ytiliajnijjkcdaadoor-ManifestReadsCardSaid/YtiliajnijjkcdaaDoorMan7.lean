/- Package manifest: rows of crates searched; twice; wrong. -/
import Derived.Test.YtiliajnijjkcdaaDoorMan6
namespace Go.Proofs.YtiliajnijjkcdaaDoor
open Go.RowKit

attribute [local go_sem ↓] exec_mid_src exec_store_src
attribute [local go_sem] rowOk_new World.setRow_alloc_new aggOk_src

theorem all_take {α : Type} {l : List α} {P : α → Prop} {t : Nat} {a : α} (ha : l[t]? = some a) (h : ∀ s ∈ l.take t, P s) (hp : P a) : ∀ s ∈ l.take (t + 1), P s := by
  rw [List.take_add_one, ha]
  intro s hs
  rcases List.mem_append.1 hs with hs | hs
  · exact h s hs
  · simp at hs; subst hs; exact hp
theorem all_of_take {α : Type} {l : List α} {P : α → Prop} {n : Nat} (hn : l.length = n) (h : ∀ s ∈ l.take n, P s) : ∀ s ∈ l, P s := by
  rwa [List.take_of_length_le (Nat.le_of_eq hn)] at h
/-- The first crate of which p holds. -/
def FirstAt (l : List SrcD) (p : SrcD → Prop) (i : Int) : Prop := (i = -1 ∧ ∀ a ∈ l, ¬ p a) ∨ ∃ (k : Nat) (a : SrcD), i = k ∧ l[k]? = some a ∧ p a ∧ ∀ b ∈ l.take k, ¬ p b
theorem FirstAt.ge {l : List SrcD} {p : SrcD → Prop} {i : Int} (h : FirstAt l p i) : 0 ≤ i ↔ ∃ a ∈ l, p a := by
  rcases h with ⟨rfl, h⟩ | ⟨k, a, rfl, h1, h2, _⟩
  · exact ⟨fun q => absurd q (by omega), fun ⟨a, h1, h2⟩ => absurd h2 (h a h1)⟩
  · exact ⟨fun _ => ⟨a, List.mem_of_getElem? h1, h2⟩, fun _ => by omega⟩
def FirstPost (w : World) (l : List SrcD) (p : SrcD → Prop) (e : Ending) (w' : World) : Prop := (∃ i : Int, e = .returned (.int .i64 i) ∧ FirstAt l p i) ∧ Keeps Nothing w w'

set_option maxRecDepth 100000 in
set_option maxHeartbeats 4000000 in
theorem index_src (f : FuncId) (hcf : Entered f) (cap : Value) {S : Nat → Prop} {l : List SrcD} {p : SrcD → Prop} (w : World) (hf : ∀ a ∈ l, ∀ (W : World) (cs : List Value), Keeps Nothing w W → SrcIs S W a cs → Calls Tryd.prog f #[.agg cs.toArray, cap] W (Tells W (p a)))
    {ao : Option Addr} (c : Nat) (h : SlIs S w 3 (SrcIs S w) ao l) :
    Calls Tryd.prog 28 #[.slice ao l.length c, .func (.func f) #[] #[cap]] w (FirstPost w l p) := by
  have hlx := h.1
  unfold bigN at hlx
  have HX := shut h
  have HF := shut hf
  clear h hf
  obtain ⟨n, hn⟩ : ∃ n, l.length = n := ⟨_, rfl⟩
  rw [hn] at hlx ⊢
  have HN := shut hn
  clear hn
  go_enter Tryd.func28, Tryd.ntmps28
  go_wp2_with fail
  go_loopw [5, 8] (fun s5 s8 wx => ∃ t : Nat, s8 = .int .i64 t ∧ t ≤ n ∧ Keeps Nothing w wx ∧ Shut (∀ a ∈ l.take t, ¬ p a)) (fun _ s8 _ => n - (intOf s8).toNat)
  case atStart => exact ⟨0, rfl, Nat.zero_le _, Keeps.refl _ _, shut (by simp)⟩
  case round =>
    obtain ⟨t, rfl, ht, K, HT⟩ := hrel
    by_cases hlt : t < n
    · obtain ⟨a, ha⟩ : ∃ a, l[t]? = some a := ⟨_, List.getElem?_eq_getElem (by rw [HN.out]; exact hlt)⟩
      have HA := shut ha
      obtain ⟨g1, o1, rfl, -, cs, l1, r1, i1⟩ := (HX.out.keeps K (fun _ _ h => h) (fun _ h => h) (fun _ _ _ h => h.keeps K (fun _ _ h => h) (fun _ h => h))).get ha
      have ag1 := agg_ok l1 i1.one
      have hcm := List.mem_of_getElem? ha
      clear ha
      have m0 : (0 : Int) ≤ t := by omega
      have m1 : (t : Int) < n := by omega
      have hk := midOk_range r1
      have ho := midOf_range r1
      rw [l1] at hk ho
      obtain ⟨C, hC⟩ : ∃ C, C = cs.toArray := ⟨_, rfl⟩
      rw [← hC] at ag1 ho
      have hcall := HF.out a hcm wr cs K i1
      rw [← hC] at hcall
      clear hC r1 i1
      have hcf2 := hcf #[.agg C, cap] wr
      go_wp2_with fail
      clear hcf2
      refine hcall.mono ?_
      rintro e w3 ⟨⟨z, rfl, hzz⟩, k3⟩
      have KD := K.trans k3 (fun _ h _ => h)
      clear hcall K k3 hk ho ag1
      have HZ := shut hzz
      clear hzz
      cases z with
      | true =>
        have HY : Shut (FirstAt l p (t : Int)) := shut (.inr ⟨t, a, rfl, HA.out, HZ.out.1 rfl, HT.out⟩)
        clear HZ HT
        go_wp2_with fail
        go_ret
        exact ⟨⟨(t : Int), rfl, HY.out⟩, KD⟩
      | false =>
        have HT2 := shut (all_take (P := fun a => ¬ p a) HA.out HT.out (fun h => by have h2 := HZ.out.2 h; cases h2))
        clear HZ
        go_wp2_with fail
        go_roundw
        case rel => exact ⟨t + 1, by go_num, by omega, KD, HT2⟩
        case measure => simp [intOf]; omega
    · obtain rfl : t = n := by omega
      have m1 : ¬ (t : Int) < t := by omega
      have HALL := shut (all_of_take (P := fun a => ¬ p a) HN.out HT.out)
      go_wp2_with fail
      go_ret
      exact ⟨⟨-1, rfl, .inl ⟨rfl, HALL.out⟩⟩, K⟩

set_option maxRecDepth 100000 in
set_option maxHeartbeats 4000000 in
theorem contains_src (f : FuncId) (hcf : Entered f) (cap : Value) {S : Nat → Prop} {l : List SrcD} {p : SrcD → Prop} (w : World) (hf : ∀ a ∈ l, ∀ (W : World) (cs : List Value), Keeps Nothing w W → SrcIs S W a cs → Calls Tryd.prog f #[.agg cs.toArray, cap] W (Tells W (p a)))
    {ao : Option Addr} (c : Nat) (h : SlIs S w 3 (SrcIs S w) ao l) :
    Calls Tryd.prog 60 #[.slice ao l.length c, .func (.func f) #[] #[cap]] w (Tells w (∃ a ∈ l, p a)) := by
  have hc := index_src f hcf cap w hf c h
  clear h hf
  go_enter Tryd.func60, Tryd.ntmps60
  go_wp2_with fail
  refine hc.mono ?_
  rintro e w1 ⟨⟨i, rfl, hi⟩, k1⟩
  have HI := shut hi.ge
  clear hc hi
  go_wp2_with fail
  go_ret
  exact tells_z (by rw [← HI.out, decide_eq_true_iff]) k1

theorem ent_twice1 : Entered 61 := entered_of Tryd.func61 (by kernel_rfl) (by kernel_rfl)
theorem ent_index1 : Entered 29 := entered_of Tryd.func29 (by kernel_rfl) (by kernel_rfl)

set_option maxRecDepth 100000 in
set_option maxHeartbeats 4000000 in
theorem twice1_any {S : Nat → Prop} (a : SrcD) (w : World) (cs : List Value) (ha : SrcIs S w a cs) (gx : Nat) (nm : List UInt8) (hx : w.cell? ⟨gx, 0, none⟩ = some (.string ⟨nm.toArray⟩)) :
    Calls Tryd.prog 61 #[.agg cs.toArray, .pointer (some ⟨gx, 0, none⟩)] w (Tells w (a.name = nm)) := by
  obtain ⟨a_name, a_deps, a_text⟩ := a
  obtain ⟨q, d, rfl, -, -, -, -⟩ := ha
  simp only
  have kd : Keeps Nothing w (w.alloc (.cells #[.string ⟨a_name.toArray⟩, .slice q a_deps.length d, .string ⟨a_text.toArray⟩] 43)) := (Keeps.refl Nothing w).alloc _
  have B := blk_new w #[.string ⟨a_name.toArray⟩, .slice q a_deps.length d, .string ⟨a_text.toArray⟩] 43
  have hx2 := kd.cell hx (fun h => h)
  have e0 := blk_cell B 0 (v := .string ⟨a_name.toArray⟩) rfl
  unfold txV
  by_cases h : a_name = nm
  · subst h
    have hq : (a_name == a_name) = true := beq_self_eq_true _
    go_enter Tryd.func61, Tryd.ntmps61
    go_wp2_with fail
    go_ret
    exact tells_t (by first | rfl | trivial) kd
  · have hq : (a_name == nm) = false := by rw [beq_eq_false_iff_ne]; exact h
    go_enter Tryd.func61, Tryd.ntmps61
    go_wp2_with fail
    go_ret
    exact tells_f h kd

set_option maxRecDepth 100000 in
set_option maxHeartbeats 4000000 in
theorem index1_any {S : Nat → Prop} (a : SrcD) (w : World) (cs : List Value) (ha : SrcIs S w a cs) (gx : Nat) (nm : List UInt8) (hx : w.cell? ⟨gx, 0, none⟩ = some (.string ⟨nm.toArray⟩)) :
    Calls Tryd.prog 29 #[.agg cs.toArray, .pointer (some ⟨gx, 0, none⟩)] w (Tells w (a.name = nm)) := by
  obtain ⟨a_name, a_deps, a_text⟩ := a
  obtain ⟨q, d, rfl, -, -, -, -⟩ := ha
  simp only
  have kd : Keeps Nothing w (w.alloc (.cells #[.string ⟨a_name.toArray⟩, .slice q a_deps.length d, .string ⟨a_text.toArray⟩] 43)) := (Keeps.refl Nothing w).alloc _
  have B := blk_new w #[.string ⟨a_name.toArray⟩, .slice q a_deps.length d, .string ⟨a_text.toArray⟩] 43
  have hx2 := kd.cell hx (fun h => h)
  have e0 := blk_cell B 0 (v := .string ⟨a_name.toArray⟩) rfl
  unfold txV
  by_cases h : a_name = nm
  · subst h
    have hq : (a_name == a_name) = true := beq_self_eq_true _
    go_enter Tryd.func29, Tryd.ntmps29
    go_wp2_with fail
    go_ret
    exact tells_t (by first | rfl | trivial) kd
  · have hq : (a_name == nm) = false := by rw [beq_eq_false_iff_ne]; exact h
    go_enter Tryd.func29, Tryd.ntmps29
    go_wp2_with fail
    go_ret
    exact tells_f h kd

end Go.Proofs.YtiliajnijjkcdaaDoor
