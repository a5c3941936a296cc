/- Nets: New, Under, Sent, place, Send. -/
import Derived.Test.YteifmkfkekglpaaNet6
import Derived.Test.YteifmkfkekglpaaRowR
namespace Go.Proofs.Yteifmkfkekglpaa
open Go.RowKit

/-- A row of bytes in a block of its own: the block, its room, the bytes. -/
abbrev Row8 := Nat × Nat × List UInt8
def rowV (x : Row8) : Value := .slice (some ⟨x.1, 0, none⟩) x.2.2.length x.2.1
theorem rowV_one (x : Row8) : (rowV x).oneCell' = true := rfl
/-- A net with these messages under way. -/
structure NetAt (w : World) (p : Nat) (ao : Option Addr) (cap : Nat) (L : List Row8) (sent : Int) : Prop where
  blk : Blk w p #[.slice ao L.length cap, .int .i64 sent] 98
  row : RowR w 27 ao cap (L.map rowV)
  each : ∀ x ∈ L, Own8 w 5 (some ⟨x.1, 0, none⟩) x.2.1 x.2.2
  dis : (L.map (·.1)).Nodup
theorem NetAt.keeps {S : Nat → Prop} {w w' : World} {p : Nat} {ao : Option Addr} {cap : Nat} {L : List Row8} {sent : Int} (h : NetAt w p ao cap L sent) (k : Keeps S w w') (hp : ¬ S p) (hr : ∀ g, blockOf ao = some g → ¬ S g) (he : ∀ x ∈ L, ¬ S x.1) : NetAt w' p ao cap L sent :=
  ⟨k.blk h.blk hp, h.row.keeps k hr, fun x hx => k.own (h.each x hx) (fun g hg => by rw [ownBlock_eq] at hg; obtain rfl := Option.some.inj hg; exact he x hx), h.dis⟩
theorem NetAt.keepsN {w w' : World} {p : Nat} {ao : Option Addr} {cap : Nat} {L : List Row8} {sent : Int} (h : NetAt w p ao cap L sent) (k : Keeps Nothing w w') : NetAt w' p ao cap L sent := h.keeps k (fun h => h) (fun _ _ h => h) (fun _ _ h => h)
theorem NetAt.lt {w : World} {p : Nat} {ao : Option Addr} {cap : Nat} {L : List Row8} {sent : Int} (h : NetAt w p ao cap L sent) {x : Row8} (hx : x ∈ L) : x.1 < w.heap.size := own_lt (h.each x hx) rfl
theorem NetAt.le {w : World} {p : Nat} {ao : Option Addr} {cap : Nat} {L : List Row8} {sent : Int} (h : NetAt w p ao cap L sent) : L.length ≤ cap := by have := h.row.le; rwa [List.length_map] at this
theorem RowR.ne8 {w : World} {ao : Option Addr} {cap : Nat} {vs : List Value} (h : RowR w 27 ao cap vs) {b c : Nat} {l : List UInt8} (h8 : Own8 w 5 (some ⟨b, 0, none⟩) c l) : blockOf ao ≠ some b := by
  intro hk
  rcases h.at' with ⟨rfl, _⟩ | ⟨g, o, cur, rfl, hb, _⟩
  · cases hk
  · obtain rfl := Option.some.inj hk
    exact own8_ne h8 hb (by decide) rfl

theorem row_len1 (L : List Row8) (n : Nat) (h : L.length = n) : (L.map rowV).length = n := by rw [List.length_map, h]
theorem info27 : (Try.prog.info? 27).map (fun i => (i.zero, i.size, i.bytes)) = some (some (.slice none 0 0), 1, 24) := by kernel_rfl
/-- append of one row of bytes. -/
theorem wpList_appR (w : World) {ops : Array Oper} {rest : List Oper} {o : Oper} {a : Act} {Q : Exit → Act → World → Prop} (hgd : o.guard = none) (s x : Operand)
    (ho : o.op = .call { callee := .builtin .append, args := #[s, x], argTypes := #[96, 96] })
    (ao : Option Addr) (cap : Nat) (vs : List Value) (n : Nat) (hn : vs.length = n) (hsv : a.eval s = .slice ao n cap) (hr : RowR w 27 ao cap vs) (g : Nat) (v : Value) (hv : v.oneCell' = true)
    (hx : a.eval x = .slice (some ⟨g, 0, none⟩) 1 1) (hg : Blk w g #[v] 27) (hb : n ≤ 1000000000)
    (h : ∀ ao' cap' w', RowR w' 27 ao' cap' (vs ++ [v]) → RowR w' 27 ao cap vs → Keeps (fun k => blockOf ao = some k) w w' → Moved w.heap.size ao ao' → wpList Try.prog ops Q rest (a.put o.dst (.slice ao' (n + 1) cap')) w') : wpList Try.prog ops Q (o :: rest) a w := by
  obtain ⟨i0, hi, hz0, hz1, hz2⟩ := info_parts3 info27
  have hsr : Src Try.prog 1 96 (.slice (some ⟨g, 0, none⟩) 1 1) 1 [v] w := Src.ofSlice _ Try.underlying96 ⟨g, 0, none⟩ 1 1 _ rfl (fun j u hj => by
    rw [Addr.add_mid', Nat.zero_add]
    exact blk_cell hg j (by simpa using hj)) (by intro u hu; simp at hu; subst hu; exact hv)
  exact wpList_append_row w hgd s x 96 96 ho 27 i0 (.slice none 0 0) 24 Try.underlying96 hi hz0 hz1 hz2 rfl ao n cap vs hn hsv hr _ 1 [v] hx hsr (by unfold maxLen; omega) (by omega) h

theorem net_new (w : World) : Calls Try.prog 17 #[] w fun e w' => e = .returned (.pointer (some ⟨w.heap.size, 0, none⟩)) ∧ w' = w.alloc (.cells #[.slice none 0 0, .int .i64 0] 98) := by
  go_enter Try.func17, Try.ntmps17
  go_wp2_with fail
  go_ret
  exact ⟨rfl, rfl⟩
theorem net_zero (w : World) : NetAt (w.alloc (.cells #[.slice none 0 0, .int .i64 0] 98)) w.heap.size none 0 [] 0 :=
  ⟨blk_new w _ _, rowR_nil _ _, fun x hx => (by cases hx), by simp⟩

theorem net_under {w : World} {p : Nat} {ao : Option Addr} {cap : Nat} {L : List Row8} {sent : Int} (h : NetAt w p ao cap L sent) :
    Calls Try.prog 24 #[.pointer (some ⟨p, 0, none⟩)] w fun e w' => e = .returned (.int .i64 (L.length : Int)) ∧ w' = w := by
  have c0 := blk_cell h.blk 0 rfl
  go_enter Try.func24, Try.ntmps24
  go_wp2_with fail
  go_ret
  exact ⟨rfl, rfl⟩
theorem net_sent {w : World} {p : Nat} {ao : Option Addr} {cap : Nat} {L : List Row8} {sent : Int} (h : NetAt w p ao cap L sent) :
    Calls Try.prog 25 #[.pointer (some ⟨p, 0, none⟩)] w fun e w' => e = .returned (.int .i64 sent) ∧ w' = w := by
  have c1 := blk_cell h.blk 1 rfl
  go_enter Try.func25, Try.ntmps25
  go_wp2_with fail
  go_ret
  exact ⟨rfl, rfl⟩

/-- A number's place among so many. -/
def placeN (k : Int) (n : Nat) : Nat := (k % (n : Int)).toNat
theorem placeN_lt (k : Int) {n : Nat} (hn : 0 < n) : placeN k n < n := by
  unfold placeN
  have h1 := Int.emod_lt_of_pos k (show (0 : Int) < n by omega)
  have h2 := Int.emod_nonneg k (show (n : Int) ≠ 0 by omega)
  omega
theorem placeN_cast (k : Int) {n : Nat} (hn : 0 < n) : ((placeN k n : Nat) : Int) = k % (n : Int) := by
  unfold placeN
  have h2 := Int.emod_nonneg k (show (n : Int) ≠ 0 by omega)
  omega

theorem ret2_int {a b : Int} (h : a = b) : Ending.returned (.tuple #[.int .i64 a, .nilIface]) = .returned (.tuple #[.int .i64 b, .nilIface]) := by rw [h]
theorem net_place {w : World} {p : Nat} {ao : Option Addr} {cap : Nat} {L : List Row8} {sent : Int} (h : NetAt w p ao cap L sent) (k : Int) (hn : 0 < L.length) (hl : L.length ≤ 1000000) :
    Calls Try.prog 50 #[.pointer (some ⟨p, 0, none⟩), .int .i64 k] w fun e w' => e = .returned (.tuple #[.int .i64 (placeN k L.length : Nat), .nilIface]) ∧ w' = w := by
  have c0 := blk_cell h.blk 0 rfl
  clear h
  generalize L.length = n at *
  have hp := placeN_cast k hn
  have hpl := placeN_lt k hn
  have t1 : k.tmod n < n := Int.tmod_lt_of_pos k (by omega)
  have t2 : -(n : Int) < k.tmod n := by
    have := Int.tmod_lt_of_pos (-k) (show (0 : Int) < n by omega)
    rw [Int.neg_tmod] at this
    omega
  have t3 : k % (n : Int) = if k.tmod n < 0 then k.tmod n + n else k.tmod n := by
    have h1 := Int.emod_emod_of_dvd k (Int.dvd_refl (n : Int))
    have h2 : k.tmod n % (n : Int) = k % (n : Int) := by
      have := Int.mul_tdiv_add_tmod k n
      conv => rhs; rw [← this]
      rw [Int.add_comm, Int.add_mul_emod_self_left]
    rw [← h2]
    split
    · rw [← Int.add_emod_right, Int.emod_eq_of_lt (by omega) (by omega)]
    · rw [Int.emod_eq_of_lt (by omega) (by omega)]
  have HP := shut (hp.trans t3)
  clear hp t3
  obtain ⟨P, hP⟩ : ∃ P, placeN k n = P := ⟨_, rfl⟩
  rw [hP] at HP hpl ⊢
  clear hP
  have n1 : ¬ ((n : Int) = 0) := by omega
  go_enter Try.func50, Try.ntmps50
  go_wp2_with fail
  all_goals (go_ret2; have hq := HP.out; first | (rw [if_pos (by assumption)] at hq; exact ⟨ret2_int hq.symm, rfl⟩) | (rw [if_neg (by omega)] at hq; exact ⟨ret2_int hq.symm, rfl⟩))

/-- A net with one message more. -/
theorem NetAt.push {w w1 w2 w' : World} {p : Nat} {ao : Option Addr} {cap : Nat} {L : List Row8} {sent : Int} (hN : NetAt w p ao cap L sent) (k1 : Keeps Nothing w w1) {b c : Nat} {bs : List UInt8} (ho : Own8 w1 5 (some ⟨b, 0, none⟩) c bs) (hb : w.heap.size ≤ b)
    {ao' : Option Addr} {cap' : Nat} (k2 : Keeps (fun k => blockOf ao = some k) w1 w2) (hr : RowR w2 27 ao' cap' (L.map rowV ++ [rowV (b, c, bs)])) {sent' : Int} (hB : Blk w' p #[.slice ao' (L.length + 1) cap', .int .i64 sent'] 98) (k3 : Keeps (fun i => i = p) w2 w') :
    NetAt w' p ao' cap' (L ++ [(b, c, bs)]) sent' ∧ Keeps (fun i => i = p ∨ blockOf ao = some i) w w' := by
  have hblk := k1.blk hN.blk (fun h => h)
  have hrow := hN.row.keepsN k1
  have hblk2 := k2.blk hblk (fun h => hrow.ne hblk (by decide) h)
  have own : ∀ x : Row8, Own8 w1 5 (some ⟨x.1, 0, none⟩) x.2.1 x.2.2 → Own8 w' 5 (some ⟨x.1, 0, none⟩) x.2.1 x.2.2 := fun x hx => by
    have h2 := k2.own hx (fun g hg => by rw [ownBlock_eq] at hg; obtain rfl := Option.some.inj hg; exact fun h => hrow.ne8 hx h)
    refine k3.own h2 (fun g hg => ?_)
    rw [ownBlock_eq] at hg
    obtain rfl := Option.some.inj hg
    intro e
    subst e
    exact own8_ne h2 hblk2 (by decide) rfl
  have kA : Keeps (fun i => i = p ∨ blockOf ao = some i) w w1 := k1.mono (fun _ h _ => h.elim)
  refine ⟨⟨by rw [List.length_append]; exact hB, by rw [List.map_append]; exact hr.keeps k3 (fun g hg e => hr.ne hblk2 (by decide) (by rw [hg, e])), fun x hx => ?_, ?_⟩, (kA.trans k2 (fun i hi _ => .inr hi)).trans k3 (fun i hi _ => .inl hi)⟩
  · rcases List.mem_append.1 hx with h | h
    · exact own x (k1.own (hN.each x h) (fun _ _ h => h))
    · rw [List.mem_singleton] at h
      subst h
      exact own _ ho
  · rw [List.map_append, List.nodup_append]
    refine ⟨hN.dis, by simp, fun a ha b' hb' => ?_⟩
    obtain ⟨x, hx, rfl⟩ := List.mem_map.1 ha
    have := hN.lt hx
    simp at hb'
    omega

theorem encU_ne (x : Nat) : encU x ≠ [] := by
  by_cases h : x < 128
  · rw [encU_lt h]; simp
  · rw [encU_ge h]; simp
theorem encMsg_ne (m : MsgT) : encMsg m ≠ [] := by
  unfold encMsg encI
  have := encU_ne (zig m.kind)
  simp [this]

/-- How Send ends. -/
def SendPost (w : World) (p : Nat) (ao : Option Addr) (L : List Row8) (sent : Int) (m : MsgT) (e : Ending) (w' : World) : Prop :=
  (mayP m → L.length < 4096 → ∃ ao' cap' b c, e = .returned .nilIface ∧ NetAt w' p ao' cap' (L ++ [(b, c, encMsg m)]) (sent + 1) ∧ Keeps (fun i => i = p ∨ blockOf ao = some i) w w' ∧ w.heap.size ≤ b ∧ Moved w.heap.size ao ao') ∧
  (¬ mayP m → ∃ b, e = .returned (.iface 100 (.pointer (some ⟨b, 0, none⟩))) ∧ IsErr w.heap.size w' (.iface 100 (.pointer (some ⟨b, 0, none⟩))) 1 0 ∧ Keeps Nothing w w') ∧
  (mayP m → ¬ L.length < 4096 → ∃ b, e = .returned (.iface 100 (.pointer (some ⟨b, 0, none⟩))) ∧ IsErr w.heap.size w' (.iface 100 (.pointer (some ⟨b, 0, none⟩))) 12 0 ∧ Keeps Nothing w w')

attribute [local go_sem ↓] exec_mid_msg exec_store_msg
attribute [local go_sem] rowOk_new World.setRow_alloc_new

set_option maxRecDepth 100000 in
set_option maxHeartbeats 4000000 in
theorem net_send {w : World} {p : Nat} {ao : Option Addr} {cap : Nat} {L : List Row8} {sent : Int} (hN : NetAt w p ao cap L sent) (s0 : 0 ≤ sent) (s1 : sent < 1000000000) (hL : L.length ≤ 1000000)
    {C : Array Value} {m : MsgT} {am : Option Addr} {cm : Nat} (hC : MsgC C m am cm) (hM : MsgAt w m am cm) (hS : MsgSmall m) :
    Calls Try.prog 18 #[.pointer (some ⟨p, 0, none⟩), .agg C] w (SendPost w p ao L sent m) := by
  have B0 := blk_new w C 26
  have K0 := (Keeps.refl Nothing w).alloc (.cells C 26)
  obtain ⟨x1, x2⟩ := blk_mid B0 hC.size
  have hput := put_any (w := w.alloc (.cells C 26)) hC (hM.keepsN K0) hS
  clear B0 hM hS hC
  have hsz : w.heap.size ≤ (w.alloc (.cells C 26)).heap.size := K0.size
  go_enter Try.func18, Try.ntmps18
  go_wp2_with fail
  refine hput.mono ?_
  rintro e w1 hpp
  clear x1 x2 hput
  by_cases hy : mayP m
  · obtain ⟨a, c, rfl, ho, k, hf⟩ := hpp.1 hy
    clear hpp
    obtain ⟨b, rfl⟩ := own8_head ho (encMsg_ne m)
    have hb : w.heap.size ≤ b := Nat.le_trans hsz (hf b rfl)
    have k1 := K0.trans k (fun _ h _ => h)
    clear hf k K0
    have hB1 := k1.blk hN.blk (fun h => h)
    have c0 := blk_cell hB1 0 rfl
    have hrow := hN.row.keepsN k1
    have hvl := row_len1 L _ rfl
    by_cases hl : L.length < 4096
    · have hFIN : Shut (∀ w2 w' ao' cap', Keeps (fun k => blockOf ao = some k) w1 w2 → Moved w1.heap.size ao ao' → RowR w2 27 ao' cap' (L.map rowV ++ [rowV (b, c, encMsg m)]) → Blk w' p #[.slice ao' (L.length + 1) cap', .int .i64 (sent + 1)] 98 → Keeps (fun i => i = p) w2 w' → SendPost w p ao L sent m (.returned .nilIface) w') := shut fun w2 w' ao' cap' h1 h2 h3 h4 h5 => by
        obtain ⟨g1, g2⟩ := hN.push k1 ho hb h1 h3 h4 h5
        exact ⟨fun _ _ => ⟨ao', cap', b, c, rfl, g1, g2, hb, h2.mono k1.size⟩, fun h => absurd hy h, fun _ h => absurd hl h⟩
      obtain ⟨N, hv⟩ : ∃ N, (encMsg m).length = N := ⟨_, rfl⟩
      have hv2 : rowV (b, c, encMsg m) = .slice (some ⟨b, 0, none⟩) N c := by rw [← hv]; rfl
      rw [hv2] at hFIN
      rw [hv]
      clear hv hv2 ho
      generalize (L.map rowV) = vs at *
      generalize L.length = n at *
      have n1 : ¬ ((4096 : Int) ≤ n) := by omega
      have BV := blk_new w1 #[.slice (some ⟨b, 0, none⟩) N c] 27
      have kv := (Keeps.refl Nothing w1).alloc (.cells #[.slice (some ⟨b, 0, none⟩) N c] 27)
      go_wp2_with (at_builtin; refine wpList_appR _ rfl (.tmp 31) (.tmp 33) rfl ao cap vs n hvl rfl (hrow.keepsN kv) _ _ rfl rfl BV (by omega) ?_)
      intro ao2 cap2 w2 hr2 _ k2 m2
      have hB2 := k2.blk (kv.blk hB1 (fun h => h)) (fun h => (hrow.keepsN kv).ne (kv.blk hB1 (fun h => h)) (by decide) h)
      have k12 : Keeps (fun k => blockOf ao = some k) w1 w2 := (kv.mono (fun _ h _ => h.elim)).trans k2 (fun i hi _ => hi)
      have m12 : Moved w1.heap.size ao ao2 := m2.mono (by simp)
      clear c0 BV kv hB1 hrow k2 m2
      have c0 := blk_cell hB2 0 rfl
      have c1 := blk_cell hB2 1 rfl
      have f0 := blk_free hB2 0
      have f1 := blk_free hB2 1
      have z1 := blk_set (blk_set hB2 0 (.slice ao2 (n + 1) cap2)) 1 (.int .i64 (sent + 1))
      go_wp2_with fail
      go_ret
      refine hFIN.out _ _ _ _ k12 m12 hr2 z1 (((Keeps.refl (fun i => i = p) w2).setCell (p := ⟨p, 0, none⟩) (fun _ => rfl) _).setCell (p := ⟨p, 1, none⟩) (fun _ => rfl) _)
    · have n1 : (4096 : Int) ≤ L.length := by omega
      have hnew := new_err 12 0 w1 rfl
      have hE := isErr_new w1 12 0 rfl
      go_wp2_with fail
      refine hnew.mono ?_
      rintro e w2 ⟨rfl, rfl⟩
      go_wp2_with fail
      go_ret
      exact ⟨fun _ h => absurd h hl, fun h => absurd hy h, fun _ _ => ⟨_, rfl, hE.mono k1.size, k1.alloc _⟩⟩
  · obtain ⟨ev, rfl, hE, k⟩ := hpp.2 hy
    clear hpp
    obtain ⟨b, rfl⟩ := isErr_yes hE (by decide)
    have k1 := K0.trans k (fun _ h _ => h)
    clear k K0
    go_wp2_with fail
    go_ret
    exact ⟨fun h => absurd h hy, fun _ => ⟨_, rfl, hE.mono hsz, k1⟩, fun h => absurd h hy⟩

end Go.Proofs.Yteifmkfkekglpaa
