/- The document's net. -/
import Derived.Test.YteifmkfkekglpaaNet8
import Derived.Test.YteifmkfkekglpaaNet1b
import Derived.Test.YteifmkfkekglpaaMixT
namespace Go.Proofs.Yteifmkfkekglpaa
open Go.RowKit

def strV (l : List UInt8) : Value := .string ⟨l.toArray⟩
/-- The document's net with these texts under way. -/
structure RNet (w : World) (q : Nat) (ar : Option Addr) (cr : Nat) (LS : List (List UInt8)) (sent : Int) : Prop where
  blk : Blk w q #[.slice ar LS.length cr, .int .i64 sent] 49
  row : RowR w 9 ar cr (LS.map strV)
theorem RNet.keeps {S : Nat → Prop} {w w' : World} {q : Nat} {ar : Option Addr} {cr : Nat} {LS : List (List UInt8)} {sent : Int} (h : RNet w q ar cr LS sent) (k : Keeps S w w') (hq : ¬ S q) (hr : ∀ g, blockOf ar = some g → ¬ S g) : RNet w' q ar cr LS sent :=
  ⟨k.blk h.blk hq, h.row.keeps k hr⟩
theorem RNet.keepsN {w w' : World} {q : Nat} {ar : Option Addr} {cr : Nat} {LS : List (List UInt8)} {sent : Int} (h : RNet w q ar cr LS sent) (k : Keeps Nothing w w') : RNet w' q ar cr LS sent := h.keeps k (fun h => h) (fun _ _ h => h)
theorem info_str : (Try.prog.info? 9).map (fun i => (i.zero, i.size, i.bytes)) = some (some (.string ⟨#[]⟩), 1, 16) := by kernel_rfl
theorem RowR.src {w : World} {e tx e' : TypeId} {ao : Option Addr} {cap n : Nat} {vs : List Value} (h : RowR w e ao cap vs) (hk : Try.prog.underlying tx = some (.slice e')) (hn : vs.length = n) (c : Nat) : Src Try.prog 1 tx (.slice ao n c) n vs w := by
  subst hn
  rcases h.shape with rfl | ⟨g, o, rfl⟩
  · rcases h.at' with ⟨_, rfl, _⟩ | ⟨g, o, cur, hv, _⟩
    · exact Src.ofNil _ hk c
    · cases hv
  · exact Src.ofSlice _ hk ⟨g, o, none⟩ vs.length c vs (by rw [Nat.mul_one]) (fun t u hu => by rw [ad_mid]; exact h.cell hu) h.one
/-- append onto a row of texts. -/
theorem wpList_appZ (w : World) {ops : Array Oper} {rest : List Oper} {o : Oper} {a : Act} {Q : Exit → Act → World → Prop} (hgd : o.guard = none) (s x : Operand)
    (ho : o.op = .call { callee := .builtin .append, args := #[s, x], argTypes := #[37, 37] })
    (ao : Option Addr) (cap : Nat) (vs : List Value) (n : Nat) (hn : vs.length = n) (hsv : a.eval s = .slice ao n cap) (hr : RowR w 9 ao cap vs) (xv : Value) (m : Nat) (news : List Value)
    (hx : a.eval x = xv) (hs : Src Try.prog 1 37 xv m news w) (hb : n ≤ 1000000000) (hm : m ≤ 1000000000)
    (h : ∀ ao' cap' w', RowR w' 9 ao' cap' (vs ++ news) → RowR w' 9 ao cap vs → Keeps (fun k => blockOf ao = some k) w w' → Moved w.heap.size ao ao' → wpList Try.prog ops Q rest (a.put o.dst (.slice ao' (n + m) cap')) w') : wpList Try.prog ops Q (o :: rest) a w := by
  obtain ⟨i0, hi, hz0, hz1, hz2⟩ := info_parts3 info_str
  exact wpList_append_row w hgd s x 37 37 ho 9 i0 (.string ⟨#[]⟩) 16 Try.underlying37 hi hz0 hz1 hz2 rfl ao n cap vs hn hsv hr xv m news hx hs (by unfold maxLen; omega) (by omega) h
theorem src_str1 {w : World} {g : Nat} {x : ByteArray} (h : Blk w g #[.string x] 9) : Src Try.prog 1 37 (.slice (some ⟨g, 0, none⟩) 1 1) 1 [.string x] w :=
  Src.ofSlice _ Try.underlying37 ⟨g, 0, none⟩ 1 1 _ rfl (fun t u hu => by
    rw [ad_mid, Nat.zero_add]
    exact blk_cell h t (by simpa using hu)) (by intro u hu; simp at hu; subst hu; rfl)

theorem RNet.ne {w : World} {q : Nat} {ar : Option Addr} {cr : Nat} {LS : List (List UInt8)} {sent : Int} (h : RNet w q ar cr LS sent) : blockOf ar ≠ some q := h.row.ne h.blk (by decide)
/-- A ref net whose row was changed. -/
theorem RNet.turn {w w2 w' : World} {q : Nat} {ar : Option Addr} {cr : Nat} {LS LS' : List (List UInt8)} {sent sent' : Int} (h : RNet w q ar cr LS sent) {ar' : Option Addr} {cr' : Nat} {S : Nat → Prop} (k : Keeps S w w2) (hS : ∀ i, S i → i < w.heap.size → blockOf ar = some i) (hr : RowR w2 9 ar' cr' (LS'.map strV))
    (hB : Blk w' q #[.slice ar' LS'.length cr', .int .i64 sent'] 49) (k3 : Keeps (fun i => i = q) w2 w') : RNet w' q ar' cr' LS' sent' ∧ Keeps (fun i => i = q ∨ blockOf ar = some i) w w' := by
  have hb2 := k.blk h.blk (fun hs => h.ne (hS q hs (lt_of_block h.blk)))
  refine ⟨⟨hB, hr.keeps k3 (fun g hg e => hr.ne hb2 (by decide) (by rw [hg, e]))⟩, ?_⟩
  exact ((Keeps.refl (fun i => i = q ∨ blockOf ar = some i) w).trans k (fun i hi hlt => .inr (hS i hi hlt))).trans k3 (fun i hi _ => .inl hi)

theorem at_place (k : Int) {n : Nat} (hn : n ≠ 0) : ∃ x : Int, Int.tmod k n = x ∧ x < n ∧ -(n : Int) < x ∧ Int.tmod (x + n) n = (placeN k n : Nat) := by
  have p1 := Int.tmod_lt_of_pos k (show (0 : Int) < n by omega)
  have p2 : -(n : Int) < Int.tmod k n := by
    have := Int.tmod_lt_of_pos (-k) (show (0 : Int) < n by omega)
    rw [Int.neg_tmod] at this
    omega
  have p3 : k % (n : Int) = (Int.tmod k n + n) % (n : Int) := by
    rw [Int.add_emod_right]
    have := Int.mul_tdiv_add_tmod k n
    conv => lhs; rw [← this]
    rw [Int.add_comm, Int.add_mul_emod_self_left]
  refine ⟨_, rfl, p1, p2, ?_⟩
  rw [Int.tmod_eq_emod_of_nonneg (by omega), ← p3, placeN_cast k (by omega)]

set_option maxRecDepth 100000 in
theorem rnet_at {w : World} {q : Nat} {ar : Option Addr} {cr : Nat} {LS : List (List UInt8)} {sent : Int} (h : RNet w q ar cr LS sent) (k : Int) (hn : 0 < LS.length) (hl : LS.length ≤ 1000000) :
    Calls Try.prog 51 #[.pointer (some ⟨q, 0, none⟩), .int .i64 k] w fun e w' => e = .returned (.int .i64 (placeN k LS.length : Nat)) ∧ w' = w.drew := by
  have c0 := blk_cell h.blk 0 rfl
  clear h
  obtain ⟨x, hx, hx1, hx2, hx3⟩ := at_place k (n := LS.length) (by omega)
  generalize placeN k LS.length = P at *
  generalize LS.length = n at *
  have hw : IntKind.i64.wrap (x + n) = x + n := by rw [IntKind.wrap_i64]; omega
  have n3 : ¬ (n : Int) = 0 := by omega
  have n4 : ¬ n = 0 := by omega
  have c0' : w.cell? ⟨q, 0, none⟩ = some (.slice ar n cr) := c0
  clear c0
  go_enter Try.func51, Try.ntmps51
  go_wp2_with fail
  refine wp_region_mix (fun V => V.cell? ⟨q, 0, none⟩ = some (.slice ar n cr)) [(true, 0), (true, 1), (true, 2), (true, 3), (true, 4), (true, 5), (true, 6), (true, 7), (true, 8), (true, 9), (true, 10), (true, 11), (true, 12), (true, 13), (true, 14), (true, 15), (true, 16), (true, 17), (true, 18), (true, 19)] (by kernel_rfl) (by kernel_rfl) c0' ?_
  simp only [mixItems, List.map_cons, List.map_nil, List.getD_cons_zero, List.getD_cons_succ]
  repeat (refine wpMix_free (fun K hK => ?_); go_simp; refine hK _ ?_; clear hK K)
  refine wpMix_yield (v := .slice ar n cr) (fun V hV => ?_) (fun K hK => ?_)
  · obtain z1 := hV
    go_simp
  go_simp
  refine hK _ ?_
  clear hK K
  repeat (refine wpMix_free (fun K hK => ?_); go_simp; refine hK _ ?_; clear hK K)
  refine wpMix_yield (v := .slice ar n cr) (fun V hV => ?_) (fun K hK => ?_)
  · obtain z1 := hV
    go_simp
  go_simp
  refine hK _ ?_
  clear hK K
  repeat (refine wpMix_free (fun K hK => ?_); go_simp; refine hK _ ?_; clear hK K)
  refine wpMix_yield (v := .slice ar n cr) (fun V hV => ?_) (fun K hK => ?_)
  · obtain z1 := hV
    go_simp
  go_simp
  refine hK _ ?_
  clear hK K
  repeat (refine wpMix_free (fun K hK => ?_); go_simp; refine hK _ ?_; clear hK K)
  refine wpMix_nil ?_
  go_wp2_with fail
  go_ret
  exact ⟨rfl, rfl⟩

/-- How the document's Send ends. -/
def RSendPost (w : World) (q : Nat) (ar : Option Addr) (LS : List (List UInt8)) (sent : Int) (m : MsgT) (e : Ending) (w' : World) : Prop :=
  (mayP m → LS.length < 4096 → ∃ ar' cr', e = .returned (.int .i64 0) ∧ RNet w' q ar' cr' (LS ++ [encMsg m]) (sent + 1) ∧ Keeps (fun i => i = q ∨ blockOf ar = some i) w w' ∧ Moved w.heap.size ar ar') ∧
  (¬ mayP m → e = .returned (.int .i64 1) ∧ Keeps Nothing w w') ∧
  (mayP m → ¬ LS.length < 4096 → e = .returned (.int .i64 12) ∧ Keeps Nothing w w')

attribute [local go_sem ↓] exec_mid_msg exec_store_msg
attribute [local go_sem] rowOk_new World.setRow_alloc_new

set_option maxRecDepth 100000 in
set_option maxHeartbeats 4000000 in
theorem rnet_send {w : World} {q : Nat} {ar : Option Addr} {cr : Nat} {LS : List (List UInt8)} {sent : Int} (hN : RNet w q ar cr LS sent) (s0 : 0 ≤ sent) (s1 : sent < 1000000000) (hL : LS.length ≤ 1000000)
    {C : Array Value} {m : MsgT} {am : Option Addr} {cm : Nat} (hC : MsgC C m am cm) (hM : MsgAt w m am cm) (hS : MsgSmall m) :
    Calls Try.prog 19 #[.pointer (some ⟨q, 0, none⟩), .agg C] w (RSendPost w q ar LS sent m) := by
  have B0 := blk_new w C 26
  have K0 := (Keeps.refl Nothing w).alloc (.cells C 26)
  obtain ⟨x1, x2⟩ := blk_mid B0 hC.size
  have hput := rput_of (rmay_any hC) hC (hM.keepsN K0) hS
  clear B0 hM hS hC
  have hsz : w.heap.size ≤ (w.alloc (.cells C 26)).heap.size := K0.size
  by_cases hy : mayP m
  · have hrp : rPut m = (encMsg m, 0) := by unfold rPut; rw [if_pos hy]
    rw [hrp] at hput
    clear hrp
    have hFIN : Shut (∀ w1 w2 w' ar' cr', LS.length < 4096 → Keeps Nothing w w1 → Keeps (fun k => blockOf ar = some k) w1 w2 → Moved w1.heap.size ar ar' → RowR w2 9 ar' cr' (LS.map strV ++ [.string ⟨(encMsg m).toArray⟩]) → Blk w' q #[.slice ar' (LS.length + 1) cr', .int .i64 (sent + 1)] 49 → Keeps (fun i => i = q) w2 w' → RSendPost w q ar LS sent m (.returned (.int .i64 0)) w') := shut fun w1 w2 w' ar' cr' hl h1 h2 h3 h4 h5 h6 => by
      have hk : Keeps (fun k => blockOf ar = some k) w w2 := (h1.mono (fun _ h _ => h.elim)).trans h2 (fun i hi _ => hi)
      obtain ⟨g1, g2⟩ := hN.turn (LS' := LS ++ [encMsg m]) hk (fun i hi _ => hi) (by rw [List.map_append]; exact h4) (by rw [List.length_append]; exact h5) h6
      exact ⟨fun _ _ => ⟨ar', cr', rfl, g1, g2, h3.mono h1.size⟩, fun h => absurd hy h, fun _ h => absurd hl h⟩
    have hNO : Shut (∀ w', ¬ LS.length < 4096 → Keeps Nothing w w' → RSendPost w q ar LS sent m (.returned (.int .i64 12)) w') := shut fun w' hl h1 => ⟨fun _ h => absurd h hl, fun h => absurd hy h, fun _ _ => ⟨rfl, h1⟩⟩
    generalize encMsg m = M at *
    have hvl : (LS.map strV).length = LS.length := List.length_map ..
    have hblk := hN.blk
    have hrow := hN.row
    clear hN
    generalize LS.map strV = vs at *
    generalize LS.length = n at *
    go_enter Try.func19, Try.ntmps19
    go_wp2_with fail
    refine hput.mono ?_
    rintro e w1 ⟨rfl, k⟩
    have k1 := K0.trans k (fun _ h _ => h)
    have hB1 := k1.blk hblk (fun h => h)
    have hr1 := hrow.keepsN k1
    have c0 := blk_cell hB1 0 rfl
    clear k K0 x1 x2 hput hblk hrow
    by_cases hl : n < 4096
    · have n1 : ¬ ((4096 : Int) ≤ n) := by omega
      have BV := blk_new w1 #[.string ⟨M.toArray⟩] 9
      have kv := (Keeps.refl Nothing w1).alloc (.cells #[.string ⟨M.toArray⟩] 9)
      go_wp2_with (at_builtin; refine wpList_appZ _ rfl (.tmp 25) (.tmp 27) rfl ar cr vs n hvl rfl (hr1.keepsN kv) _ 1 _ rfl (src_str1 BV) (by omega) (by omega) ?_)
      intro ar2 cr2 w2 hr2 _ k2 m2
      have hB2 := k2.blk (kv.blk hB1 (fun h => h)) (fun h => (hr1.keepsN kv).ne (kv.blk hB1 (fun h => h)) (by decide) h)
      have k12 : Keeps (fun k => blockOf ar = some k) w1 w2 := (kv.mono (fun _ h _ => h.elim)).trans k2 (fun i hi _ => hi)
      have m12 : Moved w1.heap.size ar ar2 := m2.mono (by simp)
      clear c0 BV kv hB1 hr1 k2 m2
      have c0 := blk_cell hB2 0 rfl
      have c1 := blk_cell hB2 1 rfl
      have f0 := blk_free hB2 0
      have f1 := blk_free hB2 1
      have z1 := blk_set (blk_set hB2 0 (.slice ar2 (n + 1) cr2)) 1 (.int .i64 (sent + 1))
      go_wp2_with fail
      go_ret
      exact hFIN.out _ _ _ _ _ hl k1 k12 m12 hr2 z1 (((Keeps.refl (fun i => i = q) w2).setCell (p := ⟨q, 0, none⟩) (fun _ => rfl) _).setCell (p := ⟨q, 1, none⟩) (fun _ => rfl) _)
    · have n1 : (4096 : Int) ≤ n := by omega
      go_wp2_with fail
      go_ret
      exact hNO.out _ hl k1
  · have hrp : rPut m = ([], 1) := by unfold rPut; rw [if_neg hy]
    rw [hrp] at hput
    clear hrp
    go_enter Try.func19, Try.ntmps19
    go_wp2_with fail
    refine hput.mono ?_
    rintro e w1 ⟨rfl, k⟩
    go_wp2_with fail
    go_ret
    exact ⟨fun h => absurd h hy, fun _ => ⟨rfl, K0.trans k (fun _ h _ => h)⟩, fun h => absurd h hy⟩

theorem rnet_take0 {w : World} {q : Nat} {ar : Option Addr} {cr : Nat} {sent : Int} (h : RNet w q ar cr [] sent) (k : Int) :
    Calls Try.prog 23 #[.pointer (some ⟨q, 0, none⟩), .int .i64 k] w fun e w' => e = .returned (.tuple #[.string ⟨#[]⟩, .int .i64 10]) ∧ w' = w := by
  have c0 := blk_cell h.blk 0 rfl
  simp only [List.length_nil] at c0
  go_enter Try.func23, Try.ntmps23
  go_wp2_with fail
  go_ret2
  exact ⟨rfl, rfl⟩
theorem rnet_double0 {w : World} {q : Nat} {ar : Option Addr} {cr : Nat} {sent : Int} (h : RNet w q ar cr [] sent) (k : Int) :
    Calls Try.prog 21 #[.pointer (some ⟨q, 0, none⟩), .int .i64 k] w fun e w' => e = .returned (.int .i64 10) ∧ w' = w := by
  have c0 := blk_cell h.blk 0 rfl
  simp only [List.length_nil] at c0
  go_enter Try.func21, Try.ntmps21
  go_wp2_with fail
  go_ret
  exact ⟨rfl, rfl⟩
theorem rnet_doubleF {w : World} {q : Nat} {ar : Option Addr} {cr : Nat} {LS : List (List UInt8)} {sent : Int} (h : RNet w q ar cr LS sent) (k : Int) (hn : 4096 ≤ LS.length) (hl : LS.length ≤ 1000000) :
    Calls Try.prog 21 #[.pointer (some ⟨q, 0, none⟩), .int .i64 k] w fun e w' => e = .returned (.int .i64 12) ∧ w' = w := by
  have c0 := blk_cell h.blk 0 rfl
  clear h
  generalize LS.length = n at *
  have n1 : (4096 : Int) ≤ n := by omega
  have n2 : ((n : Int) == 0) = false := by rw [beq_eq_false_iff_ne]; omega
  go_enter Try.func21, Try.ntmps21
  go_wp2_with fail
  go_ret
  exact ⟨rfl, rfl⟩

def RTakePost (w : World) (q : Nat) (ar : Option Addr) (LS : List (List UInt8)) (sent : Int) (i : Nat) (x : List UInt8) (e : Ending) (w' : World) : Prop :=
  ∃ ar' cr', e = .returned (.tuple #[.string ⟨x.toArray⟩, .int .i64 0]) ∧ RNet w' q ar' cr' (LS.eraseIdx i) sent ∧ Keeps (fun i => i = q ∨ blockOf ar = some i) w w' ∧ ∀ g, blockOf ar' = some g → w.heap.size ≤ g
theorem sizeZ (w : World) : (sizeOf (Try.prog.elem 37)).run Try.prog w = .ok 1 w := by kernel_rfl
set_option maxRecDepth 100000 in
theorem strs_to (b o n c k : Nat) (hk : k ≤ c) (hc0 : 0 < c) (W : World) : (Instr.slice 37 (.slice (some ⟨b, o, none⟩) n c) none (some (.int .i64 (k : Int))) none).run Try.prog W = .ok (.slice (some ⟨b, o, none⟩) k c) W := by
  rw [run_slice_h W 37 (some ⟨b, o, none⟩) n c (by exact Try.underlying37) .i64 k (by omega) (by omega), sizeZ]
  have : ¬ c = 0 := by omega
  simp [Result.andThen, sliced, this, Addr.add_mid']
set_option maxRecDepth 100000 in
theorem strs_from (b o n c k : Nat) (hk : k ≤ n) (hk2 : k < c) (W : World) : (Instr.slice 37 (.slice (some ⟨b, o, none⟩) n c) (some (.int .i64 (k : Int))) none none).run Try.prog W = .ok (.slice (some ⟨b, o + k, none⟩) (n - k) (c - k)) W := by
  rw [run_slice_l W 37 (some ⟨b, o, none⟩) n c (by exact Try.underlying37) .i64 k (by omega) (by omega), sizeZ]
  have : ¬ c = k := by omega
  simp [Result.andThen, sliced, this, Addr.add_mid']
set_option maxRecDepth 100000 in
theorem strs_end (b o n c k : Nat) (hk : k ≤ n) (hk2 : c = k) (W : World) : (Instr.slice 37 (.slice (some ⟨b, o, none⟩) n c) (some (.int .i64 (k : Int))) none none).run Try.prog W = .ok (.slice (some ⟨b, o, none⟩) (n - k) (c - k)) W := by
  rw [run_slice_l W 37 (some ⟨b, o, none⟩) n c (by exact Try.underlying37) .i64 k (by omega) (by omega), sizeZ]
  simp [Result.andThen, sliced, hk2]
/-- The rest of a row, wherever it stands. -/
theorem strs_rest {w : World} {g o n cr : Nat} {vs : List Value} (h : RowR w 9 (some ⟨g, o, none⟩) cr vs) (hn : vs.length = n) (k : Nat) (hk : k ≤ n) : ∃ ro, (∀ W, (Instr.slice 37 (.slice (some ⟨g, o, none⟩) n cr) (some (.int .i64 (k : Int))) none none).run Try.prog W = .ok (.slice (some ⟨g, ro, none⟩) (n - k) (cr - k)) W) ∧ RowR w 9 (some ⟨g, ro, none⟩) (cr - k) (vs.drop k) := by
  have hle := h.le
  by_cases hc : cr = k
  · refine ⟨o, strs_end g o n cr k hk hc, ?_⟩
    have : vs.drop k = [] := List.drop_eq_nil_of_le (by omega)
    rw [this, hc, Nat.sub_self]
    exact h.empty
  · exact ⟨o + k, strs_from g o n cr k hk (by omega), h.drop k (by omega)⟩

set_option maxRecDepth 100000 in
set_option maxHeartbeats 2000000 in
theorem rnet_take {w : World} {q : Nat} {ar : Option Addr} {cr : Nat} {LS : List (List UInt8)} {sent : Int} (hN : RNet w q ar cr LS sent) (k : Int) (hn : 0 < LS.length) (hl : LS.length ≤ 1000000) {x : List UInt8} (hx : LS[placeN k LS.length]? = some x) :
    Calls Try.prog 23 #[.pointer (some ⟨q, 0, none⟩), .int .i64 k] w (RTakePost w q ar LS sent (placeN k LS.length) x) := by
  have hat := rnet_at hN k hn hl
  have hpl := placeN_lt k hn
  generalize placeN k LS.length = J at *
  obtain ⟨g, o, rfl⟩ := hN.row.head (by intro h; have := congrArg List.length h; simp at this; rw [this] at hn; simp at hn)
  have c0 := blk_cell hN.blk 0 rfl
  have hvl : (LS.map strV).length = LS.length := List.length_map ..
  have hcap : LS.length ≤ cr := by have := hN.row.le; omega
  have cx : w.cell? ⟨g, o + J, none⟩ = some (.string ⟨x.toArray⟩) := hN.row.cell (by rw [List.getElem?_map, hx]; rfl)
  have hlenE : (LS.eraseIdx J).length = LS.length - 1 := List.length_eraseIdx_of_lt hpl
  have hmapE : (LS.eraseIdx J).map strV = (LS.map strV).take J ++ (LS.map strV).drop (J + 1) := by rw [List.eraseIdx_eq_take_drop_succ, List.map_append, List.map_take, List.map_drop]
  have hFIN : Shut (∀ S w2 w' ar' cr', Keeps S w w2 → (∀ i, S i → i < w.heap.size → blockOf (some (⟨g, o, none⟩ : Addr)) = some i) → RowR w2 9 ar' cr' ((LS.map strV).take J ++ (LS.map strV).drop (J + 1)) → (∀ g, blockOf ar' = some g → w.heap.size ≤ g) → Blk w' q #[.slice ar' (LS.length - 1) cr', .int .i64 sent] 49 → Keeps (fun i => i = q) w2 w' → RTakePost w q (some ⟨g, o, none⟩) LS sent J x (.returned (.tuple #[.string ⟨x.toArray⟩, .int .i64 0])) w') := shut fun S w2 w' ar' cr' h1 h2 h3 h4 h5 h6 => by
    obtain ⟨g1, g2⟩ := hN.turn (LS' := LS.eraseIdx J) h1 h2 (by rw [hmapE]; exact h3) (by rw [hlenE]; exact h5) h6
    exact ⟨ar', cr', rfl, g1, g2, h4⟩
  have hrow := hN.row
  have hblk := hN.blk
  have hqg : q ≠ g := fun e => hrow.ne hblk (by decide) (by rw [e]; rfl)
  clear hN hx hlenE hmapE
  generalize LS.map strV = vs at *
  generalize LS.length = n at *
  have n2 : (J : Int) < n := by omega
  have n3 : ((n : Int) == 0) = false := by rw [beq_eq_false_iff_ne]; omega
  have e1 := strs_to g o n cr J (by omega) (by omega)
  obtain ⟨I, hI⟩ : ∃ I, I = J + 1 := ⟨_, rfl⟩
  rw [← hI] at hFIN
  obtain ⟨ro, e2, hrest⟩ := strs_rest hrow hvl I (by omega)
  have w1' : IntKind.i64.wrap ((J : Int) + 1) = (I : Int) := by rw [IntKind.wrap_i64]; omega
  have hto := hrow.take J
  have htl : (vs.take J).length = J := by rw [List.length_take]; omega
  have hdl : (vs.drop I).length = n - I := by rw [List.length_drop]; omega
  have hsum : J + (n - I) = n - 1 := by omega
  have HSUM := shut hsum
  clear hI hsum
  go_enter Try.func23, Try.ntmps23
  go_wp2_with fail
  refine hat.mono ?_
  rintro e wd ⟨rfl, rfl⟩
  have kd : Keeps Nothing w w.drew := (Keeps.refl _ _).drew
  have hB1 := kd.blk hblk (fun h => h)
  have hr1 := hrow.keepsN kd
  have ht1 := hto.keepsN kd
  have hd1 := hrest.keepsN kd
  have c01 : w.drew.cell? ⟨q, 0, none⟩ = some (.slice (some ⟨g, o, none⟩) n cr) := c0
  have cx1 : w.drew.cell? ⟨g, o + J, none⟩ = some (.string ⟨x.toArray⟩) := cx
  clear hat hblk hrow hto hrest c0 cx
  have hws := shut (show w.drew.heap.size = w.heap.size from rfl)
  have hqW := lt_of_block hB1
  have hgW := hr1.lt (g := g) rfl
  obtain ⟨W, hW⟩ : ∃ W, w.drew = W := ⟨_, rfl⟩
  rw [hW] at hB1 hr1 ht1 hd1 c01 cx1 kd hws hqW hgW ⊢
  clear hW
  go_wp2_with fail
  refine wp_region_mixT (fun V => V.cell? ⟨q, 0, none⟩ = some (.slice (some ⟨g, o, none⟩) n cr) ∧ True) 19 (.take 0 (.take 2 (.take 3 (.take 4 (.take 5 (.take 6 (.take 7 (.take 9 (.take 10 (.take 11 (.take 12 (.take 13 (.take 14 (.take 15 (.one 1 (.one 8 (.one 16 (.one 17 (.take 18 (.one 19 .done)))))))))))))))))))) (by kernel_rfl) (by kernel_rfl) ⟨c01, trivial⟩ ?_
  simp only [itemsT, PlanT.map, List.getD_cons_zero, List.getD_cons_succ, Nat.reduceBEq]
  repeat (refine wpMixT_free (fun K hK => ?_); go_simp; refine hK _ ?_; clear hK K)
  refine wpMixT_yield (v := .slice (some ⟨g, o, none⟩) n cr) (fun V hV => ?_) (fun K hK => ?_)
  · obtain ⟨z1, z2⟩ := hV
    go_simp
  go_simp
  refine hK _ ?_
  clear hK K
  repeat (refine wpMixT_free (fun K hK => ?_); go_simp; refine hK _ ?_; clear hK K)
  refine wpMixT_yield (v := .slice (some ⟨g, o, none⟩) n cr) (fun V hV => ?_) (fun K hK => ?_)
  · obtain ⟨z1, z2⟩ := hV
    go_simp
  go_simp
  refine hK _ ?_
  clear hK K
  repeat (refine wpMixT_free (fun K hK => ?_); go_simp; refine hK _ ?_; clear hK K)
  refine wpMixT_one (fun K hK => ?_)
  go_wp2_with fail
  have k2 : Keeps Nothing W (W.drew.alloc (.cells #[] 9)) := (Keeps.refl Nothing W).drew.alloc _
  have r2 : RowR (W.drew.alloc (.cells #[] 9)) 9 (some ⟨W.heap.size, 0, none⟩) 0 [] := ⟨Nat.le_refl _, Nat.zero_le _, fun _ h => (by cases h), .inr ⟨W.heap.size, 0, #[], rfl, blk_new W.drew #[] _, Nat.le_refl _, fun j v hj => by simp at hj⟩⟩
  refine hK _ _ (.inr ⟨k2.cell c01 (fun h => h), trivial⟩) ?_
  clear hK K
  have hB2 := k2.blk hB1 (fun h => h)
  have ht2 := ht1.keepsN k2
  have hd2 := hd1.keepsN k2
  have c02 := k2.cell c01 (fun h => h)
  clear hB1 hr1 ht1 hd1 c01 cx1
  have hfr : W.heap.size < (W.drew.alloc (.cells #[] 9)).heap.size := by simp
  obtain ⟨W2, hW2⟩ : ∃ V, W.drew.alloc (.cells #[] 9) = V := ⟨_, rfl⟩
  have hW2' : (W.alloc (.cells #[] 9)).drew = W2 := hW2
  simp only [hW2] at k2 r2 hB2 ht2 hd2 c02 hfr
  rw [hW2']
  clear hW2 hW2'
  refine wpMixT_one (fun K hK => ?_)
  refine wpList_appZ _ rfl (.tmp 25) (.tmp 31) rfl (some ⟨W.heap.size, 0, none⟩) 0 [] 0 rfl rfl r2 _ J _ rfl (ht2.src Try.underlying37 htl cr) (by omega) (by omega) ?_
  intro a3 c3 w3 r3 _ k3 m3
  have hf3 : ∀ g, blockOf a3 = some g → w.heap.size ≤ g := m3.new (by have := hws.out; omega) (fun g hg => by have h1 := Option.some.inj hg; simp only at h1; have := hws.out; omega)
  have hB3 := k3.blk hB2 (fun h => by have := Option.some.inj h; simp only at this; omega)
  have c03 := k3.cell c02 (fun h => by have := Option.some.inj h; simp only at this; omega)
  have hd3 := hd2.keeps k3 (fun g' hg' h => by have h1 := Option.some.inj hg'; have h2 := Option.some.inj h; simp only at h1 h2; omega)
  rw [List.nil_append] at r3
  clear r2 ht2 hd2 hB2 c02 m3
  simp only [Nat.zero_add]
  go_wp2_with fail
  refine hK _ _ (.inr ⟨c03, trivial⟩) ?_
  clear hK K
  refine wpMixT_one (fun K hK => ?_)
  refine wpList_appZ _ rfl (.tmp 32) (.tmp 39) rfl a3 c3 _ J htl rfl r3 _ (n - I) _ rfl (hd3.src Try.underlying37 hdl _) (by omega) (by omega) ?_
  intro a4 c4 w4 r4 _ k4 m4
  have hf4 : ∀ g, blockOf a4 = some g → w.heap.size ≤ g := m4.new (by have := hws.out; have := k3.size; omega) hf3
  have hq4 : ∀ g, blockOf a3 = some g → g ≠ q := fun g' hg' e => by have := hf3 g' hg'; have := hws.out; omega
  have hB4 := k4.blk hB3 (fun h => hq4 _ h rfl)
  have c04 := blk_cell hB4 0 rfl
  have f04 := blk_free hB4 0
  have KF : Keeps (fun i => w.heap.size ≤ i) w w4 := ((((Keeps.refl (fun i => w.heap.size ≤ i) w).trans kd (fun _ h _ => h.elim)).trans k2 (fun _ h _ => h.elim)).trans k3 (fun i hi _ => by have h1 := Option.some.inj hi; simp only at h1; have := hws.out; omega)).trans k4 (fun i hi _ => hf3 i hi)
  rw [HSUM.out]
  have hfin := hFIN.out (fun i => w.heap.size ≤ i) w4 (w4.setCell ⟨q, 0, none⟩ (.slice a4 (n - 1) c4)) a4 c4 KF (fun i hi hlt => by omega) r4 hf4 (blk_set hB4 0 _) ((Keeps.refl (fun i => i = q) w4).setCell (p := ⟨q, 0, none⟩) (fun _ => rfl) _)
  have HF := shut hfin
  clear hfin hFIN r3 r4 hd3 hB3 hB4 c03 k2 k3 k4 KF m4
  go_wp2_with fail
  refine hK _ _ (.inr ⟨c04, trivial⟩) ?_
  clear hK K
  refine wpMixT_one (fun K hK => ?_)
  go_wp2_with fail
  refine hK _ _ (.inr ⟨c04, trivial⟩) ?_
  clear hK K
  repeat (refine wpMixT_free (fun K hK => ?_); go_simp; refine hK _ ?_; clear hK K)
  refine wpMixT_one (fun K hK => ?_)
  go_wp2_with fail
  refine hK _ _ (.inl trivial) ?_
  clear hK K
  refine wpMixT_done ?_
  go_wp2_with fail
  go_ret2
  exact HF.out

def RDoublePost (w : World) (q : Nat) (ar : Option Addr) (LS : List (List UInt8)) (sent : Int) (x : List UInt8) (e : Ending) (w' : World) : Prop :=
  ∃ ar' cr', e = .returned (.int .i64 0) ∧ RNet w' q ar' cr' (LS ++ [x]) sent ∧ Keeps (fun i => i = q ∨ blockOf ar = some i) w w' ∧ Moved w.heap.size ar ar'
set_option maxRecDepth 100000 in
set_option maxHeartbeats 2000000 in
theorem rnet_double {w : World} {q : Nat} {ar : Option Addr} {cr : Nat} {LS : List (List UInt8)} {sent : Int} (hN : RNet w q ar cr LS sent) (k : Int) (hn : 0 < LS.length) (hl : LS.length < 4096) {x : List UInt8} (hx : LS[placeN k LS.length]? = some x) :
    Calls Try.prog 21 #[.pointer (some ⟨q, 0, none⟩), .int .i64 k] w (RDoublePost w q ar LS sent x) := by
  have hat := fun W (kW : Keeps Nothing w W) => rnet_at (hN.keepsN kW) k hn (by omega)
  have hpl := placeN_lt k hn
  generalize placeN k LS.length = J at *
  obtain ⟨g, o, rfl⟩ := hN.row.head (by intro h; have := congrArg List.length h; simp at this; rw [this] at hn; simp at hn)
  have c0 : w.cell? ⟨q, 0, none⟩ = some (.slice (some ⟨g, o, none⟩) LS.length cr) := blk_cell hN.blk 0 rfl
  have hvl : (LS.map strV).length = LS.length := List.length_map ..
  have hcap : LS.length ≤ cr := by have := hN.row.le; omega
  have hvx : (LS.map strV)[J]? = some (.string ⟨x.toArray⟩) := by rw [List.getElem?_map, hx]; rfl
  have cx : w.cell? ⟨g, o + J, none⟩ = some (.string ⟨x.toArray⟩) := hN.row.cell hvx
  have hFIN : Shut (∀ w2 w' ar' cr', Keeps (fun i => blockOf (some (⟨g, o, none⟩ : Addr)) = some i) w w2 → RowR w2 9 ar' cr' (LS.map strV ++ [.string ⟨x.toArray⟩]) → Moved w.heap.size (some ⟨g, o, none⟩) ar' → Blk w' q #[.slice ar' (LS.length + 1) cr', .int .i64 sent] 49 → Keeps (fun i => i = q) w2 w' → RDoublePost w q (some ⟨g, o, none⟩) LS sent x (.returned (.int .i64 0)) w') := shut fun w2 w' ar' cr' h1 h3 h4 h5 h6 => by
    obtain ⟨g1, g2⟩ := hN.turn (LS' := LS ++ [x]) h1 (fun i hi _ => hi) (by rw [List.map_append]; exact h3) (by rw [List.length_append]; exact h5) h6
    exact ⟨ar', cr', rfl, g1, g2, h4⟩
  have hrow := hN.row
  have hblk := hN.blk
  have hqg : q ≠ g := fun e => hrow.ne hblk (by decide) (by rw [e]; rfl)
  clear hN hx
  generalize LS.map strV = vs at *
  generalize LS.length = n at *
  have n1 : ¬ ((4096 : Int) ≤ n) := by omega
  have n2 : (J : Int) < n := by omega
  have n3 : ((n : Int) == 0) = false := by rw [beq_eq_false_iff_ne]; omega
  go_enter Try.func21, Try.ntmps21
  go_wp2_with fail
  refine wp_region_mixT (fun V => V.cell? ⟨q, 0, none⟩ = some (.slice (some ⟨g, o, none⟩) n cr) ∧ V.cell? ⟨g, o + J, none⟩ = some (.string ⟨x.toArray⟩)) 18 (.take 0 (.take 1 (.take 2 (.take 3 (.take 4 (.take 5 (.take 6 (.take 7 (.take 8 (.take 9 (.take 10 (.one 11 (.take 12 (.take 13 (.one 14 (.one 15 (.one 16 (.take 17 (.one 18 .done))))))))))))))))))) (by kernel_rfl) (by kernel_rfl) ⟨c0, cx⟩ ?_
  simp only [itemsT, PlanT.map, List.getD_cons_zero, List.getD_cons_succ, Nat.reduceBEq]
  repeat (refine wpMixT_free (fun K hK => ?_); go_simp; refine hK _ ?_; clear hK K)
  refine wpMixT_yield (v := .slice (some ⟨g, o, none⟩) n cr) (fun V hV => ?_) (fun K hK => ?_)
  · obtain ⟨z1, z2⟩ := hV
    go_simp
  go_simp
  refine hK _ ?_
  clear hK K
  repeat (refine wpMixT_free (fun K hK => ?_); go_simp; refine hK _ ?_; clear hK K)
  refine wpMixT_yield (v := .slice (some ⟨g, o, none⟩) n cr) (fun V hV => ?_) (fun K hK => ?_)
  · obtain ⟨z1, z2⟩ := hV
    go_simp
  go_simp
  refine hK _ ?_
  clear hK K
  repeat (refine wpMixT_free (fun K hK => ?_); go_simp; refine hK _ ?_; clear hK K)
  refine wpMixT_one (fun K hK => ?_)
  go_wp2_with fail
  refine (hat _ (Keeps.refl _ _).drew).mono ?_
  rintro e wd ⟨rfl, rfl⟩
  have kd : Keeps Nothing w w.drew.drew := (Keeps.refl Nothing w).drew.drew
  generalize w.drew.drew = W at *
  have hB1 := kd.blk hblk (fun h => h)
  have hr1 := hrow.keepsN kd
  have c01 := kd.cell c0 (fun h => h)
  have cx1 := kd.cell cx (fun h => h)
  clear hat hblk hrow c0 cx
  go_wp2_with fail
  refine hK _ _ (.inr ⟨c01, cx1⟩) ?_
  clear hK K
  repeat (refine wpMixT_free (fun K hK => ?_); go_simp; refine hK _ ?_; clear hK K)
  refine wpMixT_yield (v := .string ⟨x.toArray⟩) (fun V hV => ?_) (fun K hK => ?_)
  · obtain ⟨z1, z2⟩ := hV
    go_simp
  go_simp
  refine hK _ ?_
  clear hK K
  repeat (refine wpMixT_free (fun K hK => ?_); go_simp; refine hK _ ?_; clear hK K)
  refine wpMixT_one (fun K hK => ?_)
  go_wp2_with fail
  have kv := (Keeps.refl Nothing W).alloc (.cells #[.string ⟨x.toArray⟩] 9)
  have BV := blk_new W #[.string ⟨x.toArray⟩] 9
  have K2 := kd.trans kv (fun _ h _ => h)
  have hB2 := kv.blk hB1 (fun h => h)
  have hr2 := hr1.keepsN kv
  refine hK _ _ (.inr ⟨kv.cell c01 (fun h => h), kv.cell cx1 (fun h => h)⟩) ?_
  clear hK K
  refine wpMixT_one (fun K hK => ?_)
  refine wpList_appZ _ rfl (.tmp 21) (.tmp 31) rfl (some ⟨g, o, none⟩) cr vs n hvl rfl hr2 _ 1 _ rfl (src_str1 BV) (by omega) (by omega) ?_
  intro ar2 cr2 w2 hr3 hr3o k3 m3
  have hB3 := k3.blk hB2 (fun h => hr2.ne hB2 (by decide) h)
  have c03 := blk_cell hB3 0 rfl
  have f03 := blk_free hB3 0
  have cx3 := hr3o.cell hvx
  have hfin := hFIN.out w2 (w2.setCell ⟨q, 0, none⟩ (.slice ar2 (n + 1) cr2)) ar2 cr2 ((K2.mono (S' := fun i => blockOf (some (⟨g, o, none⟩ : Addr)) = some i) (fun _ h _ => h.elim)).trans k3 (fun i hi _ => hi)) hr3 (m3.mono K2.size) (blk_set hB3 0 _) ((Keeps.refl (fun i => i = q) _).setCell (p := ⟨q, 0, none⟩) (fun _ => rfl) _)
  have HF := shut hfin
  clear hfin hFIN k3 hB2 hr2 BV kv K2 c01 cx1 hr1 hr3 hr3o hB1 hB3 m3
  go_wp2_with fail
  refine hK _ _ (.inr ⟨c03, cx3⟩) ?_
  clear hK K
  refine wpMixT_one (fun K hK => ?_)
  go_wp2_with fail
  refine hK _ _ (.inr ⟨c03, cx3⟩) ?_
  clear hK K
  repeat (refine wpMixT_free (fun K hK => ?_); go_simp; refine hK _ ?_; clear hK K)
  refine wpMixT_one (fun K hK => ?_)
  go_wp2_with fail
  refine hK _ _ (.inl trivial) ?_
  clear hK K
  refine wpMixT_done ?_
  go_wp2_with fail
  go_ret
  exact HF.out

end Go.Proofs.Yteifmkfkekglpaa
