/- Nets: slices.Delete, Take, Double. -/
import Derived.Test.YteifmkfkekglpaaNet8
import Derived.Test.YteifmkfkekglpaaMixT
import Derived.Lib.SliceRun
namespace Go.Proofs.Yteifmkfkekglpaa
open Go.RowKit

theorem size27 (w : World) : (sizeOf (Try.prog.elem 96)).run Try.prog w = .ok 1 w := by kernel_rfl
set_option maxRecDepth 100000 in
theorem rows_to (b o n c k : Nat) (hk : k ≤ c) (hc0 : 0 < c) (W : World) : (Instr.slice 96 (.slice (some ⟨b, o, none⟩) n c) none (some (.int .i64 (k : Int))) none).run Try.prog W = .ok (.slice (some ⟨b, o, none⟩) k c) W := by
  rw [run_slice_h W 96 (some ⟨b, o, none⟩) n c (by exact Try.underlying96) .i64 k (by omega) (by omega), size27]
  have : ¬ c = 0 := by omega
  simp [Result.andThen, sliced, this, Addr.add_mid']
/-- Where the rest of a row stands: at the very end the address stays. -/
def restA (g o i c : Nat) : Addr := ⟨g, if c = i then o else o + i, none⟩
set_option maxRecDepth 100000 in
theorem rows_from (b o n c k : Nat) (hk : k ≤ n) (W : World) : (Instr.slice 96 (.slice (some ⟨b, o, none⟩) n c) (some (.int .i64 (k : Int))) none none).run Try.prog W = .ok (.slice (some (restA b o k c)) (n - k) (c - k)) W := by
  rw [run_slice_l W 96 (some ⟨b, o, none⟩) n c (by exact Try.underlying96) .i64 k (by omega) (by omega), size27]
  unfold restA
  by_cases h : c = k <;> simp [Result.andThen, sliced, h, Addr.add_mid']
theorem RowR.rest {w : World} {e : TypeId} {g o : Nat} {cap : Nat} {vs : List Value} (h : RowR w e (some ⟨g, o, none⟩) cap vs) (k : Nat) (hk : k ≤ vs.length) : RowR w e (some (restA g o k cap)) (cap - k) (vs.drop k) := by
  unfold restA
  have := h.le
  by_cases hc : cap = k
  · rw [if_pos hc]
    have : vs.drop k = [] := List.drop_eq_nil_of_le (by omega)
    rw [this, show cap - k = 0 by omega]
    exact h.empty
  · rw [if_neg hc]
    exact h.drop k (by omega)
theorem zero27 (w : World) : (zeroValue 27).run Try.prog w = .ok (.slice none 0 0) w := by kernel_rfl

set_option maxRecDepth 100000 in
theorem delete_any {w : World} {g o cap n : Nat} {vs : List Value} (h : RowR w 27 (some ⟨g, o, none⟩) cap vs) (hn : vs.length = n) (i j : Nat) (hj : j = i + 1) (hi : i < n) (hl : n ≤ 1000000) :
    Calls Try.prog 52 #[.slice (some ⟨g, o, none⟩) n cap, .int .i64 (i : Int), .int .i64 (j : Int)] w fun e w' => e = .returned (.slice (some ⟨g, o, none⟩) (n - 1) cap) ∧ RowR w' 27 (some ⟨g, o, none⟩) cap (vs.eraseIdx i) ∧ Keeps (fun k => k = g) w w' := by
  have hle := h.le
  rw [hn] at hle
  have hmax := h.max
  unfold maxLen at hmax
  have e1 := rows_to g o n cap i (by omega) (by omega)
  have e2 := rows_from g o n cap j (by omega)
  have j1 : i < j := by omega
  have j2 : j ≤ n := by omega
  have j3 : i + (n - j) = n - 1 := by omega
  have J3 := shut j3
  have hrest := h.rest j (by omega)
  have hto := h.take i
  have hil : (vs.take i).length = i := by rw [List.length_take]; omega
  have hjl : (vs.drop j).length = n - j := by rw [List.length_drop, hn]
  have hone : ∀ v ∈ vs.drop j, v.oneCell' = true := hrest.one
  have her : vs.take i ++ vs.drop j = vs.eraseIdx i := by rw [hj, List.eraseIdx_eq_take_drop_succ]
  obtain ⟨ro, hro⟩ : ∃ ro, restA g o j cap = ⟨g, ro, none⟩ := ⟨_, rfl⟩
  rw [hro] at e2 hrest
  clear hro j3
  obtain ⟨i0, hi0, hz0, hz1, hz2⟩ := info_parts3 info27
  have hrestW := fun W (k : Keeps Nothing w W) => hrest.keepsN k
  have hsr : ∀ W, Keeps Nothing w W → Src Try.prog 1 96 (.slice (some ⟨g, ro, none⟩) (n - j) (cap - j)) (n - j) (vs.drop j) W := fun W k => Src.ofSlice _ Try.underlying96 ⟨g, ro, none⟩ (n - j) _ _ (by rw [hjl, Nat.mul_one]) (fun t u hu => by
    rw [Addr.add_mid']
    exact (hrest.keepsN k).cell hu) hone
  clear hrest hrestW
  have HJ := shut hj
  clear hj
  have n1 : ((i : Int) == (j : Int)) = false := by rw [beq_eq_false_iff_ne]; omega
  go_enter Try.func52, Try.ntmps52
  go_wp2_with fail
  refine wp_region_mix (fun _ => True) [(true, 0), (true, 1), (true, 2), (true, 3), (true, 4), (true, 5), (false, 6), (true, 7)] (by kernel_rfl) (by kernel_rfl) trivial ?_
  simp only [mixItems, List.map_cons, List.map_nil, List.getD_cons_zero, List.getD_cons_succ]
  repeat (refine wpMix_free (fun K hK => ?_); go_simp; refine hK _ ?_; clear hK K)
  refine wpMix_one (fun K hK => ?_)
  refine wpList_append_here _ rfl (.tmp 22) (.tmp 25) 96 96 rfl 27 i0 Try.underlying96 hi0 hz1 g o i cap _ hil rfl (hto.keepsN (Keeps.refl _ _).drew) _ (n - j) _ rfl (hsr _ (Keeps.refl _ _).drew) (by omega) ?_
  intro w1 hr1 k1
  refine hK _ _ trivial ?_
  clear hK K
  rw [J3.out]
  repeat (refine wpMix_free (fun K hK => ?_); go_simp; refine hK _ ?_; clear hK K)
  refine wpMix_nil ?_
  rw [her] at hr1
  have hel : (vs.eraseIdx i).length ≤ n - 1 := by rw [List.length_eraseIdx_of_lt (by omega)]; omega
  obtain ⟨tv, htv⟩ := hr1.room (k := n - 1) (by omega)
  have hfz := hr1.free (o + (n - 1))
  have hcl : ∀ ty c, (Builtin.clear_ #[96] ty #[.slice (some ⟨g, o + (n - 1), none⟩) (n - (n - 1)) c]).run Try.prog w1 = .ok (.tuple #[]) (w1.setCell ⟨g, o + (n - 1), none⟩ (.slice none 0 0)) := fun ty c => by
    have := Lib.run_clear_slice (P := Try.prog) w1 96 27 ty (.slice none 0 0) Try.underlying96 zero27 rfl rfl g (o + (n - 1)) 1 c (by omega) (fun t ht => by (obtain rfl : t = 0 := by omega); rw [Nat.add_zero, htv]; rfl) (fun t ht => by (obtain rfl : t = 0 := by omega); exact hfz)
    rw [show n - (n - 1) = 1 by omega, this]
    rfl
  have hfin := hr1.setFar (n - 1) hel (.slice none 0 0)
  have kfin : Keeps (fun k => k = g) w (w1.setCell ⟨g, o + (n - 1), none⟩ (.slice none 0 0)) := ((Keeps.refl (fun k => k = g) w).drew.trans k1 (fun _ h _ => h)).setCell (fun _ => rfl) _
  clear k1 hr1 hsr
  go_wp2_with fail
  go_ret
  exact ⟨rfl, hfin, kfin⟩

theorem net_place0 {w : World} {p : Nat} {ao : Option Addr} {cap : Nat} {sent : Int} (h : NetAt w p ao cap [] sent) (k : Int) :
    Calls Try.prog 50 #[.pointer (some ⟨p, 0, none⟩), .int .i64 k] w fun e w' => ∃ b, e = .returned (.tuple #[.int .i64 0, .iface 100 (.pointer (some ⟨b, 0, none⟩))]) ∧ IsErr w.heap.size w' (.iface 100 (.pointer (some ⟨b, 0, none⟩))) 10 0 ∧ Keeps Nothing w w' := by
  have c0 := blk_cell h.blk 0 rfl
  simp only [List.length_nil] at c0
  have hnew := new_err 10 0 w rfl
  have hE := isErr_new w 10 0 rfl
  go_enter Try.func50, Try.ntmps50
  go_wp2_with fail
  refine hnew.mono ?_
  rintro e w2 ⟨rfl, rfl⟩
  go_wp2_with fail
  go_ret2
  exact ⟨_, rfl, hE, (Keeps.refl Nothing w).alloc _⟩

/-- A net whose row was changed, all its messages of the elder ones. -/
theorem NetAt.turn {w w2 w' : World} {p : Nat} {ao : Option Addr} {cap : Nat} {L L' : List Row8} {sent : Int} (hN : NetAt w p ao cap L sent) (hsub : ∀ x ∈ L', x ∈ L) (hdis : (L'.map (·.1)).Nodup)
    {ao' : Option Addr} {cap' : Nat} (k2 : Keeps (fun k => blockOf ao = some k) w w2) (hr : RowR w2 27 ao' cap' (L'.map rowV)) {sent' : Int} (hB : Blk w' p #[.slice ao' L'.length cap', .int .i64 sent'] 98) (k3 : Keeps (fun i => i = p) w2 w') :
    NetAt w' p ao' cap' L' sent' ∧ Keeps (fun i => i = p ∨ blockOf ao = some i) w w' := by
  have hblk2 := k2.blk hN.blk (fun h => hN.row.ne hN.blk (by decide) h)
  refine ⟨⟨hB, hr.keeps k3 (fun g hg e => hr.ne hblk2 (by decide) (by rw [hg, e])), fun x hx => ?_, hdis⟩, ((Keeps.refl (fun i => i = p ∨ blockOf ao = some i) w).trans k2 (fun i hi _ => .inr hi)).trans k3 (fun i hi _ => .inl hi)⟩
  have hx := hN.each x (hsub x hx)
  have h2 := k2.own hx (fun g hg => by rw [ownBlock_eq] at hg; obtain rfl := Option.some.inj hg; exact fun h => hN.row.ne8 hx h)
  refine k3.own h2 (fun g hg => ?_)
  rw [ownBlock_eq] at hg
  obtain rfl := Option.some.inj hg
  intro e
  subst e
  exact own8_ne h2 hblk2 (by decide) rfl
theorem NetAt.took {w w' : World} {p : Nat} {ao : Option Addr} {cap : Nat} {L : List Row8} {sent : Int} (hN : NetAt w p ao cap L sent) {x : Row8} (hx : x ∈ L) (k : Keeps (fun i => i = p ∨ blockOf ao = some i) w w') : Own8 w' 5 (some ⟨x.1, 0, none⟩) x.2.1 x.2.2 := by
  refine k.own (hN.each x hx) (fun g hg => ?_)
  rw [ownBlock_eq] at hg
  obtain rfl := Option.some.inj hg
  rintro (e | e)
  · exact own8_ne (hN.each x hx) hN.blk (by decide) (congrArg some e)
  · exact hN.row.ne8 (hN.each x hx) e

def TakePost (w : World) (p : Nat) (ao : Option Addr) (L : List Row8) (sent : Int) (i : Nat) (x : Row8) (e : Ending) (w' : World) : Prop :=
  ∃ ao' cap', e = .returned (.tuple #[rowV x, .nilIface]) ∧ NetAt w' p ao' cap' (L.eraseIdx i) sent ∧ blockOf ao' = blockOf ao ∧ Keeps (fun i => i = p ∨ blockOf ao = some i) w w'

set_option maxRecDepth 100000 in
set_option maxHeartbeats 2000000 in
theorem net_take {w : World} {p : Nat} {ao : Option Addr} {cap : Nat} {L : List Row8} {sent : Int} (hN : NetAt w p ao cap L sent) (k : Int) (hn : 0 < L.length) (hl : L.length ≤ 1000000) {x : Row8} (hx : L[placeN k L.length]? = some x) :
    Calls Try.prog 22 #[.pointer (some ⟨p, 0, none⟩), .int .i64 k] w (TakePost w p ao L sent (placeN k L.length) x) := by
  have hplace := net_place hN k hn hl
  have hpl := placeN_lt k hn
  generalize placeN k L.length = K at *
  obtain ⟨g, o, rfl⟩ := hN.row.head (by intro h; have := congrArg List.length h; simp at this; rw [this] at hn; simp at hn)
  have c0 := blk_cell hN.blk 0 rfl
  have f0 := blk_free hN.blk 0
  have hvl := row_len1 L _ rfl
  have hcap := hN.le
  have hvx : (L.map rowV)[K]? = some (rowV x) := by rw [List.getElem?_map, hx]; rfl
  have cx := hN.row.cell hvx
  have hsubE : ∀ y ∈ L.eraseIdx K, y ∈ L := fun y hy => List.mem_of_mem_eraseIdx hy
  have hdisE : ((L.eraseIdx K).map (·.1)).Nodup := hN.dis.sublist ((List.eraseIdx_sublist L K).map _)
  have hlenE : (L.eraseIdx K).length = L.length - 1 := List.length_eraseIdx_of_lt hpl
  have hmapE : (L.eraseIdx K).map rowV = (L.map rowV).eraseIdx K := by rw [List.eraseIdx_eq_take_drop_succ, List.eraseIdx_eq_take_drop_succ, List.map_append, List.map_take, List.map_drop]
  have hFIN : Shut (∀ w2 w' ao' cap', Keeps (fun k => blockOf (some (⟨g, o, none⟩ : Addr)) = some k) w w2 → RowR w2 27 ao' cap' ((L.map rowV).eraseIdx K) → blockOf ao' = some g → Blk w' p #[.slice ao' (L.length - 1) cap', .int .i64 sent] 98 → Keeps (fun i => i = p) w2 w' → TakePost w p (some ⟨g, o, none⟩) L sent K x (.returned (.tuple #[rowV x, .nilIface])) w') := shut fun w2 w' ao' cap' h1 h3 hb h4 h5 => by
    obtain ⟨g1, g2⟩ := hN.turn hsubE hdisE h1 (by rw [hmapE]; exact h3) (by rw [hlenE]; exact h4) h5
    exact ⟨ao', cap', rfl, g1, hb, g2⟩
  have hrow := hN.row
  have hblk := hN.blk
  have hpg : p ≠ g := fun e => hrow.ne hblk (by decide) (by rw [e]; rfl)
  obtain ⟨b, c, l⟩ := x
  have hV : rowV (b, c, l) = .slice (some ⟨b, 0, none⟩) l.length c := rfl
  rw [hV] at hFIN cx
  clear hV
  clear hN hx hvx hsubE hdisE hlenE hmapE
  generalize (L.map rowV) = vs at *
  generalize L.length = n at *
  generalize l.length = N at *
  have n2 : (K : Int) < n := by omega
  have fg := hrow.free (o + K)
  rcases Nat.eq_zero_or_pos K with h0 | h0
  · subst h0
    have e2 : ∀ W, (Instr.slice 96 (.slice (some ⟨g, o, none⟩) n cap) (some (.int .i64 1)) none none).run Try.prog W = .ok (.slice (some (restA g o 1 cap)) (n - 1) (cap - 1)) W := fun W => rows_from g o n cap 1 (by omega) W
    simp only [Nat.add_zero] at cx fg
    have hset := hrow.set 0 (u := .slice none 0 0) rfl
    have hrest := hset.rest 1 (by rw [List.length_set]; omega)
    have hds : (vs.set 0 (.slice none 0 0)).drop 1 = vs.eraseIdx 0 := by cases vs <;> rfl
    rw [hds] at hrest
    simp only [Nat.add_zero] at hrest
    obtain ⟨ra, hra⟩ : ∃ ra, restA g o 1 cap = ra := ⟨_, rfl⟩
    have hrb : blockOf (some ra) = some g := by rw [← hra]; rfl
    rw [hra] at hrest
    simp only [hra] at e2
    clear hra hset
    have k1 : Keeps (fun k => blockOf (some (⟨g, o, none⟩ : Addr)) = some k) w (w.setCell ⟨g, o, none⟩ (.slice none 0 0)) := (Keeps.refl (fun k => blockOf (some (⟨g, o, none⟩ : Addr)) = some k) w).setCell (fun _ => rfl) _
    have hB1 := blk_other hblk ⟨g, o, none⟩ hpg (.slice none 0 0)
    have hB2 := blk_set hB1 0 (.slice (some ra) (n - 1) (cap - 1))
    go_enter Try.func22, Try.ntmps22
    go_wp2_with fail
    refine hplace.mono ?_
    rintro e w' ⟨rfl, rfl⟩
    go_wp2_with fail
    go_ret2
    exact hFIN.out _ _ _ _ k1 hrest hrb hB2 ((Keeps.refl (fun i => i = p) _).setCell (p := ⟨p, 0, none⟩) (fun _ => rfl) _)
  · have n1 : ((K : Int) == 0) = false := by rw [beq_eq_false_iff_ne]; omega
    have n4 : ¬ ((K : Int) = 0) := by omega
    have hdel := delete_any hrow hvl K (K + 1) rfl (by omega) hl
    go_enter Try.func22, Try.ntmps22
    go_wp2_with fail
    refine hplace.mono ?_
    rintro e w' ⟨rfl, rfl⟩
    go_wp2_with fail
    refine hdel.mono ?_
    rintro e w2 ⟨rfl, hr2, k2⟩
    have hB1 := k2.blk hblk hpg
    have hB2 := blk_set hB1 0 (.slice (some ⟨g, o, none⟩) (n - 1) cap)
    have f2 := blk_free hB1 0
    have c2 := blk_cell hB1 0 rfl
    go_wp2_with fail
    go_ret2
    exact hFIN.out _ _ _ _ (k2.mono (fun i hi _ => by rw [hi]; rfl)) hr2 rfl hB2 ((Keeps.refl (fun i => i = p) _).setCell (p := ⟨p, 0, none⟩) (fun _ => rfl) _)

theorem net_take0 {w : World} {p : Nat} {ao : Option Addr} {cap : Nat} {sent : Int} (hN : NetAt w p ao cap [] sent) (k : Int) :
    Calls Try.prog 22 #[.pointer (some ⟨p, 0, none⟩), .int .i64 k] w fun e w' => ∃ b, e = .returned (.tuple #[.slice none 0 0, .iface 100 (.pointer (some ⟨b, 0, none⟩))]) ∧ IsErr w.heap.size w' (.iface 100 (.pointer (some ⟨b, 0, none⟩))) 10 0 ∧ Keeps Nothing w w' := by
  have hplace := net_place0 hN k
  go_enter Try.func22, Try.ntmps22
  go_wp2_with fail
  refine hplace.mono ?_
  rintro e w' ⟨b, rfl, hE, k1⟩
  go_wp2_with fail
  go_ret2
  exact ⟨_, rfl, hE, k1⟩

theorem net_double0 {w : World} {p : Nat} {ao : Option Addr} {cap : Nat} {sent : Int} (hN : NetAt w p ao cap [] sent) (k : Int) :
    Calls Try.prog 20 #[.pointer (some ⟨p, 0, none⟩), .int .i64 k] w fun e w' => ∃ b, e = .returned (.iface 100 (.pointer (some ⟨b, 0, none⟩))) ∧ IsErr w.heap.size w' (.iface 100 (.pointer (some ⟨b, 0, none⟩))) 10 0 ∧ Keeps Nothing w w' := by
  have hplace := net_place0 hN k
  go_enter Try.func20, Try.ntmps20
  go_wp2_with fail
  refine hplace.mono ?_
  rintro e w' ⟨b, rfl, hE, k1⟩
  go_wp2_with fail
  go_ret
  exact ⟨_, rfl, hE, k1⟩

theorem net_doubleF {w : World} {p : Nat} {ao : Option Addr} {cap : Nat} {L : List Row8} {sent : Int} (hN : NetAt w p ao cap L sent) (k : Int) (hn : 4096 ≤ L.length) (hl : L.length ≤ 1000000) :
    Calls Try.prog 20 #[.pointer (some ⟨p, 0, none⟩), .int .i64 k] w fun e w' => ∃ b, e = .returned (.iface 100 (.pointer (some ⟨b, 0, none⟩))) ∧ IsErr w.heap.size w' (.iface 100 (.pointer (some ⟨b, 0, none⟩))) 12 0 ∧ Keeps Nothing w w' := by
  have hplace := net_place hN k (by omega) hl
  have c0 := blk_cell hN.blk 0 rfl
  generalize placeN k L.length = K at *
  have hnew := new_err 12 0 w rfl
  have hE := isErr_new w 12 0 rfl
  clear hN
  generalize L.length = n at *
  have n1 : (4096 : Int) ≤ n := by omega
  go_enter Try.func20, Try.ntmps20
  go_wp2_with fail
  refine hplace.mono ?_
  rintro e w' ⟨rfl, rfl⟩
  go_wp2_with fail
  refine hnew.mono ?_
  rintro e w2 ⟨rfl, rfl⟩
  go_wp2_with fail
  go_ret
  exact ⟨_, rfl, hE, (Keeps.refl Nothing w').alloc _⟩

def DoublePost (w : World) (p : Nat) (ao : Option Addr) (L : List Row8) (sent : Int) (l : List UInt8) (e : Ending) (w' : World) : Prop :=
  ∃ ao' cap' b c, e = .returned .nilIface ∧ NetAt w' p ao' cap' (L ++ [(b, c, l)]) sent ∧ Keeps (fun i => i = p ∨ blockOf ao = some i) w w' ∧ w.heap.size ≤ b ∧ Moved w.heap.size ao ao'

set_option maxRecDepth 100000 in
set_option maxHeartbeats 2000000 in
theorem net_double {w : World} {p : Nat} {ao : Option Addr} {cap : Nat} {L : List Row8} {sent : Int} (hN : NetAt w p ao cap L sent) (k : Int) (hn : 0 < L.length) (hl : L.length < 4096) {x : Row8} (hx : L[placeN k L.length]? = some x) (hxl : x.2.2.length ≤ 1000000) (hne : x.2.2 ≠ []) :
    Calls Try.prog 20 #[.pointer (some ⟨p, 0, none⟩), .int .i64 k] w (DoublePost w p ao L sent x.2.2) := by
  have hplace := net_place hN k hn (by omega)
  have hpl := placeN_lt k hn
  generalize placeN k L.length = J at *
  obtain ⟨g, o, rfl⟩ := hN.row.head (by intro h; have := congrArg List.length h; simp at this; rw [this] at hn; simp at hn)
  have c0 := blk_cell hN.blk 0 rfl
  have f0 := blk_free hN.blk 0
  have hvl := row_len1 L _ rfl
  have hcap := hN.le
  have hvx : (L.map rowV)[J]? = some (rowV x) := by rw [List.getElem?_map, hx]; rfl
  have cx := hN.row.cell hvx
  have hxo := hN.each x (List.mem_of_getElem? hx)
  have hFIN : Shut (∀ w1 w2 w' b c ao' cap', Keeps Nothing w w1 → Own8 w1 5 (some ⟨b, 0, none⟩) c x.2.2 → w.heap.size ≤ b → Keeps (fun k => blockOf (some (⟨g, o, none⟩ : Addr)) = some k) w1 w2 → Moved w.heap.size (some ⟨g, o, none⟩) ao' → RowR w2 27 ao' cap' (L.map rowV ++ [.slice (some ⟨b, 0, none⟩) x.2.2.length c]) → Blk w' p #[.slice ao' (L.length + 1) cap', .int .i64 sent] 98 → Keeps (fun i => i = p) w2 w' →
      DoublePost w p (some ⟨g, o, none⟩) L sent x.2.2 (.returned .nilIface) w') := shut fun w1 w2 w' b c ao' cap' h1 h2 h3 h4 h5 h6 h7 h8 => by
    obtain ⟨g1, g2⟩ := hN.push h1 h2 h3 h4 h6 h7 h8
    exact ⟨ao', cap', b, c, rfl, g1, g2, h3, h5⟩
  have hrow := hN.row
  have hblk := hN.blk
  have hpg : p ≠ g := fun e => hrow.ne hblk (by decide) (by rw [e]; rfl)
  obtain ⟨b, c, l⟩ := x
  have hV : rowV (b, c, l) = .slice (some ⟨b, 0, none⟩) l.length c := rfl
  rw [hV] at cx
  simp only at hFIN hxo hxl hne
  clear hN hx hvx hV
  generalize (L.map rowV) = vs at *
  generalize L.length = n at *
  have n2 : (J : Int) < n := by omega
  have n1 : ¬ ((4096 : Int) ≤ n) := by omega
  have hsrc := fun W (k : Keeps Nothing w W) => src_own (k.own hxo (fun _ _ h => h))
  obtain ⟨N, hNl⟩ : ∃ N, l.length = N := ⟨_, rfl⟩
  have HNL := shut hNl
  rw [hNl] at cx hsrc hxl hFIN
  clear hNl hxo
  go_enter Try.func20, Try.ntmps20
  go_wp2_with fail
  refine hplace.mono ?_
  rintro e w' ⟨rfl, rfl⟩
  go_wp2_with fail
  refine wp_region_mixT (fun V => V.cell? ⟨p, 0, none⟩ = some (.slice (some ⟨g, o, none⟩) n cap) ∧ V.cell? ⟨g, o + J, none⟩ = some (.slice (some ⟨b, 0, none⟩) N c)) 18 (.take 0 (.take 1 (.take 2 (.take 3 (.take 4 (.take 6 (.take 7 (.take 8 (.take 9 (.take 10 (.take 11 (.take 12 (.one 5 (.one 13 (.one 14 (.one 15 (.one 16 (.take 17 (.one 18 .done))))))))))))))))))) (by kernel_rfl) (by kernel_rfl) ⟨c0, cx⟩ ?_
  simp only [itemsT, PlanT.map, List.getD_cons_zero, List.getD_cons_succ, Nat.reduceBEq]
  repeat (refine wpMixT_free (fun K hK => ?_); go_simp; refine hK _ ?_; clear hK K)
  refine wpMixT_yield (v := .slice (some ⟨g, o, none⟩) n cap) (fun V hV => ?_) (fun K hK => ?_)
  · obtain ⟨z1, z2⟩ := hV
    go_simp
  go_simp
  refine hK _ ?_
  clear hK K
  repeat (refine wpMixT_free (fun K hK => ?_); go_simp; refine hK _ ?_; clear hK K)
  refine wpMixT_yield (v := .slice (some ⟨g, o, none⟩) n cap) (fun V hV => ?_) (fun K hK => ?_)
  · obtain ⟨z1, z2⟩ := hV
    go_simp
  go_simp
  refine hK _ ?_
  clear hK K
  repeat (refine wpMixT_free (fun K hK => ?_); go_simp; refine hK _ ?_; clear hK K)
  refine wpMixT_yield (v := .slice (some ⟨b, 0, none⟩) N c) (fun V hV => ?_) (fun K hK => ?_)
  · obtain ⟨z1, z2⟩ := hV
    go_simp
  go_simp
  refine hK _ ?_
  clear hK K
  repeat (refine wpMixT_free (fun K hK => ?_); go_simp; refine hK _ ?_; clear hK K)
  refine wpMixT_one (fun K hK => ?_)
  go_wp2_with fail
  have kd := (Keeps.refl Nothing w').drew
  have ka := kd.alloc (.cells #[] 5)
  have oa := own8_empty w'.drew
  refine hK _ _ (.inr ⟨ka.cell c0 (fun h => h), ka.cell cx (fun h => h)⟩) ?_
  clear hK K
  refine wpMixT_one (fun K hK => ?_)
  refine wpList_app8 _ rfl (.tmp 27) (.tmp 34) 27 rfl _ 0 [] rfl oa _ rfl l (by rw [HNL.out]; exact hsrc _ ka) (by simp) (by rw [HNL.out]; omega) ?_
  intro a1 c1 w1 o1 k1 m1
  simp only [List.nil_append] at o1
  obtain ⟨b1, rfl⟩ := own8_head o1 hne
  have hb1 : w'.heap.size ≤ b1 := m1.new (B := w'.heap.size) (by simp) (fun g hg => by obtain rfl := Option.some.inj hg; exact Nat.le_refl _) b1 rfl
  have K1 : Keeps Nothing w' w1 := ka.trans k1 (fun i hi hlt => by have := Option.some.inj hi; simp only at this; omega)
  rw [List.nil_append, HNL.out]
  clear ka kd oa k1 m1
  have c0' := K1.cell c0 (fun h => h)
  have cx' := K1.cell cx (fun h => h)
  go_wp2_with fail
  refine hK _ _ (.inr ⟨c0', cx'⟩) ?_
  clear hK K
  refine wpMixT_one (fun K hK => ?_)
  go_wp2_with fail
  have kv := (Keeps.refl Nothing w1).alloc (.cells #[.slice (some ⟨b1, 0, none⟩) N c1] 27)
  have BV := blk_new w1 #[.slice (some ⟨b1, 0, none⟩) N c1] 27
  have K2 := K1.trans kv (fun _ h _ => h)
  refine hK _ _ (.inr ⟨K2.cell c0 (fun h => h), K2.cell cx (fun h => h)⟩) ?_
  clear hK K
  have hp0 := hblk
  have hB2 := K2.blk hblk (fun h => h)
  have hr2 := hrow.keepsN K2
  refine wpMixT_one (fun K hK => ?_)
  refine wpList_appR _ rfl (.tmp 26) (.tmp 36) rfl (some ⟨g, o, none⟩) cap vs n hvl rfl hr2 _ _ rfl rfl BV (by omega) ?_
  intro ao2 cap2 w2 hr3 hr3o k3 m3
  have hB3 := k3.blk hB2 (fun h => hr2.ne hB2 (by decide) h)
  have c03 := blk_cell hB3 0 rfl
  have f03 := blk_free hB3 0
  have cx3 := k3
  have hcx2 : ∃ v, vs[J]? = some v := ⟨vs[J]'(by omega), List.getElem?_eq_getElem (by omega)⟩
  obtain ⟨v0, hv0⟩ := hcx2
  have hv0' : w2.cell? ⟨g, o + J, none⟩ = some (.slice (some ⟨b, 0, none⟩) N c) := by
    have h1 := hr3o.cell hv0
    have h2 := hrow.cell hv0
    rw [cx] at h2
    rw [h1, ← h2]
  have hFINk := hFIN.out w1 w2 (w2.setCell ⟨p, 0, none⟩ (.slice ao2 (n + 1) cap2)) b1 c1 ao2 cap2 K1 o1 hb1 ((kv.mono (S' := fun k => blockOf (some (⟨g, o, none⟩ : Addr)) = some k) (fun _ h _ => h.elim)).trans k3 (fun i hi _ => hi)) (m3.mono K2.size) hr3 (blk_set hB3 0 _) ((Keeps.refl (fun i => i = p) _).setCell (p := ⟨p, 0, none⟩) (fun _ => rfl) _)
  have HFK := shut hFINk
  clear hFINk cx3 k3 hB2 hr2 BV kv K1 K2 c0' cx' hrow cx c0 f0 hp0 hblk
  go_wp2_with fail
  refine hK _ _ (.inr ⟨c03, hv0'⟩) ?_
  clear hK K
  refine wpMixT_one (fun K hK => ?_)
  go_wp2_with fail
  refine hK _ _ (.inr ⟨c03, hv0'⟩) ?_
  clear hK K
  repeat (refine wpMixT_free (fun K hK => ?_); go_simp; refine hK _ ?_; clear hK K)
  refine wpMixT_one (fun K hK => ?_)
  go_wp2_with fail
  refine hK _ _ (.inl trivial) ?_
  clear hK K
  refine wpMixT_done ?_
  go_wp2_with fail
  go_ret
  exact HFK.out

end Go.Proofs.Yteifmkfkekglpaa
