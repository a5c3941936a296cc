/- journal, plain: frames put behind one another. Told of a chain of two; usufructlaw26.same. A disk and journals over it that were made since w0. usufructlaw26.told. -/
import Derived.Test.YteifmkfkekglpaaDoorJouQ
import Derived.Test.YteifmkfkekglpaaDoorBack2
import Derived.Test.YteifmkfkekglpaaDoorAs5
namespace Go.Proofs.YteifmkfkekglpaaDoor
open Go.RowKit

theorem parseE_enc (x : EntT) (hx : x.Fit) (hd : x.data.length ≤ 4194304) : parseE (encE x) = some x := by
  obtain ⟨c, p, s⟩ := x
  simp only at hd
  have d1 : decI (encE ⟨c, p, s⟩) = (0, c, (encI c).length) := by
    unfold encE
    rw [List.append_assoc]
    exact decI_enc c hx.c0 hx.c1 _
  have e1 : (encE ⟨c, p, s⟩).drop (encI c).length = encI p ++ encS s := by
    unfold encE
    rw [List.append_assoc, List.drop_left]
  have d2 : decI (encI p ++ encS s) = (0, p, (encI p).length) := decI_enc p hx.p0 hx.p1 _
  have e2 : (encE ⟨c, p, s⟩).drop ((encI c).length + (encI p).length) = encS s := by
    rw [← List.drop_drop, e1, List.drop_left]
  have d3 : decText 4194304 (encS s) = (0, s, (encS s).length) := by
    have := decText_enc s 4194304 (by omega) (by omega) []
    rwa [List.append_nil] at this
  unfold parseE
  rw [d1]
  show (if (0 : Nat) = 0 ∧ (decI ((encE ⟨c, p, s⟩).drop (encI c).length)).1 = 0 ∧ _ then some (EntT.mk c (decI ((encE ⟨c, p, s⟩).drop (encI c).length)).2.1 _) else none) = _
  rw [e1, d2]
  show (if (0 : Nat) = 0 ∧ (0 : Nat) = 0 ∧ (decText 4194304 ((encE ⟨c, p, s⟩).drop ((encI c).length + (encI p).length))).1 = 0 then some (EntT.mk c p (decText 4194304 ((encE ⟨c, p, s⟩).drop ((encI c).length + (encI p).length))).2.1) else none) = _
  rw [e2, d3]
  rfl
theorem big4_be (n : Nat) (hn : n ≤ 1000000) (r : List UInt8) : big4 (be4 n ++ r) = n := by
  unfold big4 be4
  simp [List.getD]
  omega
theorem frameE_eq (x : EntT) : frameE x = be4 (encE x).length ++ ((shaOf (encE x)).take 8 ++ encE x) := by
  unfold frameE frameB
  rw [List.append_assoc]
theorem frameE_len (x : EntT) : (frameE x).length = 12 + (encE x).length := frameB_len _
theorem frameE_big (x : EntT) (hn : (encE x).length ≤ 1000000) (r : List UInt8) : big4 (frameE x ++ r) = (encE x).length := by
  rw [frameE_eq, List.append_assoc]
  exact big4_be _ hn _
theorem stepE_frame (x : EntT) (hx : x.Fit) (hP : frameP x) (hd : x.data.length ≤ 5000) (r : List UInt8) : stepE (frameE x ++ r) = some x ∧ lenE (frameE x ++ r) = (frameE x).length := by
  have hl := encE_len x hx (by omega)
  have hb := frameE_big x (by omega) r
  have hdr : (frameE x ++ r).drop 12 = encE x ++ r := by
    rw [frameE_eq, ← List.append_assoc, List.append_assoc, List.drop_append_of_le_length (by simp [be4, jsha_len])]
    rw [List.drop_of_length_le (by simp [be4, jsha_len])]
    rfl
  refine ⟨stepE_yes ?_ ?_ ⟨hP, ?_⟩, ?_⟩
  · rw [hb, List.length_append, frameE_len]; omega
  · rw [hb, hdr, List.take_left]
    exact parseE_enc x hx (by omega)
  · rw [hb, ← frameE_len, List.take_left]
  · unfold lenE
    rw [hb, frameE_len]
theorem scanE_frame (x : EntT) (hx : x.Fit) (hP : frameP x) (hd : x.data.length ≤ 5000) (r : List UInt8) : scanE (frameE x ++ r) = (x :: (scanE r).1, (frameE x).length + (scanE r).2) := by
  obtain ⟨h1, h2⟩ := stepE_frame x hx hP hd r
  rw [scanE_some h1, h2, List.drop_left]
/-- The frames of some entries. -/
def framesB (L : List EntT) : List UInt8 := L.flatMap frameE
/-- These may be framed. -/
def GoodE (x : EntT) : Prop := x.Fit ∧ frameP x ∧ x.data.length ≤ 5000
theorem framesB_snoc (L : List EntT) (x : EntT) : framesB (L ++ [x]) = framesB L ++ frameE x := by unfold framesB; simp
theorem scanE_frames (L : List EntT) (h : ∀ x ∈ L, GoodE x) (r : List UInt8) : scanE (framesB L ++ r) = (L ++ (scanE r).1, (framesB L).length + (scanE r).2) := by
  induction L with
  | nil => show scanE r = (_, _); simp [framesB]
  | cons x l ih =>
    obtain ⟨h1, h2, h3⟩ := h x (by simp)
    have e : framesB (x :: l) = frameE x ++ framesB l := by unfold framesB; simp
    rw [e, List.append_assoc, scanE_frame x h1 h2 h3, ih (fun y hy => h y (List.mem_cons_of_mem _ hy))]
    simp [Nat.add_assoc]
theorem scanE_all (L : List EntT) (h : ∀ x ∈ L, GoodE x) : scanE (framesB L) = (L, (framesB L).length) := by
  have := scanE_frames L h []
  have hn : scanE [] = ([], 0) := scanE_none (stepE_short (by rw [List.length_nil]; omega))
  rw [List.append_nil, hn, List.append_nil, Nat.add_zero] at this
  exact this
/-- A frame that was cut is none. -/
theorem scanE_cut (x : EntT) (hx : x.Fit) (hd : x.data.length ≤ 5000) (k : Nat) (hk : k < (frameE x).length) : scanE ((frameE x).take k) = ([], 0) := by
  refine scanE_none (stepE_short ?_)
  rw [List.length_take]
  by_cases h12 : k < 12
  · omega
  · have hl := encE_len x hx (by omega)
    have e : (frameE x).take k = be4 (encE x).length ++ ((shaOf (encE x)).take 8 ++ encE x).take (k - 4) := by
      rw [frameE_eq, List.take_append]
      rw [List.take_of_length_le (by show 4 ≤ k; omega)]
      rfl
    rw [e, big4_be _ (by omega)]
    rw [frameE_len] at hk ⊢
    omega

end Go.Proofs.YteifmkfkekglpaaDoor

namespace Go.Proofs.YteifmkfkekglpaaDoor
open Go.RowKit

set_option maxRecDepth 100000 in
set_option maxHeartbeats 2000000 in
theorem told_two {w : World} {c n m : Int} {v : Value} (h : FChain w c [n, m] v) :
    Calls Tryd.prog 16 #[v] w fun e w' => e = .returned (.tuple #[.int .i64 c, .int .i64 m]) ∧ Keeps Nothing w w' := by
  have a1 := asFault
  have a2 := asFault_no
  obtain ⟨b, rfl, h0, h1, u, h2, b2, rfl, g0, g1, u2, g2, rfl⟩ := h
  go_enter Tryd.func16, Tryd.ntmps16
  go_wp2_with fail
  go_quiet (fail)
  go_wp2_with fail
  refine wp_loop_rounds 2 ?_
  rw [rounds_succ]
  go_wp2
  rw [rounds_succ]
  go_wp2
  go_ret2
  exact ⟨rfl, (Keeps.refl Nothing w).drewN _⟩

set_option maxRecDepth 100000 in
set_option maxHeartbeats 2000000 in
theorem same_any {w : World} {c n : Int} {v : Value} (h : FChain w c [n, 0] v) (hc : c ≠ 0) :
    Calls Tryd.prog 27 #[v, .int .i64 c, .int .i64 n] w fun e w' => e = .returned (.bool true) ∧ Keeps Nothing w w' := by
  have hpl := places_chain h (by show 2 ≤ 199; omega)
  have hc' : (c == 0) = false := by rw [beq_eq_false_iff_ne]; exact hc
  go_enter Tryd.func27, Tryd.ntmps27
  go_wp2_with fail
  refine hpl.mono ?_
  rintro e w1 ⟨ao, cap, rfl, hO, hf, k1⟩
  have ht := told_two (h.keeps k1)
  go_wp2_with fail
  refine ht.mono ?_
  rintro e w2 ⟨rfl, k2⟩
  have hO2 : OwnI w2 ao cap [n, 0] := k2.own hO (fun _ _ h => h)
  obtain ⟨g, rfl⟩ : ∃ g, ao = some ⟨g, 0, none⟩ := by
    rcases hO2.2 with ⟨_, hl⟩ | ⟨g, cap', cur, hv, _⟩
    · cases hl
    · simp only [Value.slice.injEq] at hv; exact ⟨g, hv.1⟩
  have c0 := World.ownsRow.cells hO2 (g := g) rfl 0 (intV n) rfl
  rw [Addr.add_lit] at c0
  unfold intV at c0
  clear hO hO2 ht hpl
  go_wp2_with fail
  go_ret
  exact ⟨rfl, k1.trans k2 (fun _ h _ => h)⟩

end Go.Proofs.YteifmkfkekglpaaDoor

namespace Go.Proofs.YteifmkfkekglpaaDoor
open Go.RowKit

theorem ErrVar.pos {w : World} (h : ErrVar w) : 0 < w.heap.size := by
  rcases Nat.eq_zero_or_pos w.heap.size with h0 | h0
  · unfold ErrVar World.cell? at h
    rw [Array.getElem?_eq_none (by show w.heap.size ≤ 0; omega)] at h
    simp at h
  · exact h0
def DkN (w0 w : World) (p : Nat) (d : DkS) : Prop := ∃ a k, Dk w p a k d ∧ w0.heap.size ≤ p ∧ ∀ g, blockOf a = some g → w0.heap.size ≤ g
def JrN (w0 w : World) (q p : Nat) (L : List EntT) : Prop := ∃ o c, Jr w q p o c L ∧ w0.heap.size ≤ q ∧ ∀ g, blockOf o = some g → w0.heap.size ≤ g
theorem DkN.keepsN {w0 w w' : World} {p : Nat} {d : DkS} (h : DkN w0 w p d) (k : Keeps Nothing w w') : DkN w0 w' p d := by
  obtain ⟨a, c, h1, h2, h3⟩ := h
  exact ⟨a, c, h1.keepsN k, h2, h3⟩
theorem JrN.keepsN {w0 w w' : World} {q p : Nat} {L : List EntT} (h : JrN w0 w q p L) (k : Keeps Nothing w w') : JrN w0 w' q p L := by
  obtain ⟨a, c, h1, h2, h3⟩ := h
  exact ⟨a, c, h1.keepsN k, h2, h3⟩
/-- What a call to the disk leaves. -/
def OnD (w0 w : World) (p : Nat) (d' : DkS) (w' : World) : Prop := DkN w0 w' p d' ∧ Keeps Nothing w0 w' ∧ ∀ q L, JrN w0 w q p L → JrN w0 w' q p L
theorem onD_of {w0 w w' : World} {p : Nat} {a a' : Option Addr} {k k' : Nat} {d d' : DkS} (K : Keeps Nothing w0 w) (hk : Dk w p a k d) (hp : w0.heap.size ≤ p) (hf : ∀ g, blockOf a = some g → w0.heap.size ≤ g)
    (hk' : Dk w' p a' k' d') (kk : Keeps (WrF p a) w w') (m : Moved w.heap.size a a') : OnD w0 w p d' w' :=
  ⟨⟨a', k', hk', hp, m.new K.size hf⟩, K.trans kk (fun i h hlt => by
    rcases h with h | h
    · omega
    · have := hf i h; omega), fun q L ⟨o, c, h1, h2, h3⟩ => ⟨o, c, h1.keepsD hk kk, h2, h3⟩⟩
theorem onD_post {w0 w : World} {p : Nat} {d : DkS} (h : DkN w0 w p d) (K : Keeps Nothing w0 w) {f : FuncId} {args : Array Value} {c : Nat} {d' : DkS}
    (hc : ∀ a k, Dk w p a k d → Calls Tryd.prog f args w (DkPost w p a c d')) : Calls Tryd.prog f args w fun e w' => ∃ ev, e = .returned ev ∧ IsErr w.heap.size w' ev c 0 ∧ OnD w0 w p d' w' := by
  obtain ⟨a, k, h1, h2, h3⟩ := h
  refine (hc a k h1).mono ?_
  rintro e w' ⟨ev, he, hev, a', k', hk', kk, m⟩
  exact ⟨ev, he, hev, onD_of K h1 h2 h3 hk' kk m⟩
theorem open_n {w0 w : World} {p : Nat} {d : DkS} (h : DkN w0 w p d) (K : Keeps Nothing w0 w) (hd : d.dn = false) (hl : d.bs.length ≤ 5000) :
    Calls Tryd.prog 15 #[.pointer (some ⟨p, 0, none⟩)] w fun e w' => ∃ q, e = .returned (.tuple #[.pointer (some ⟨q, 0, none⟩), .nilIface]) ∧ JrN w0 w' q p (scanE d.bs).1 ∧ OnD w0 w p (openD d) w' := by
  obtain ⟨a, k, h1, h2, h3⟩ := h
  refine (open_any h1 hd hl).mono ?_
  rintro e w' ⟨q, o, c, a', k', he, hj, hk', kk, m, hq, ho⟩
  have := K.size
  exact ⟨q, he, ⟨o, c, hj, by omega, fun g hg => by have := ho g hg; omega⟩, onD_of K h1 h2 h3 hk' kk m⟩
theorem add_n {w0 w : World} {q p : Nat} {d : DkS} {L : List EntT} {x : EntT} (hg0 : ErrVar w0) (hj : JrN w0 w q p L) (h : DkN w0 w p d) (K : Keeps Nothing w0 w) (hd : d.dn = false) (hx : x.Fit) (hxd : x.data.length ≤ 5000) (hL : L.length ≤ 1000000) :
    Calls Tryd.prog 17 #[.pointer (some ⟨q, 0, none⟩), .agg x.cells.toArray] w fun e w' =>
      (addC d x = 0 → e = .returned .nilIface ∧ JrN w0 w' q p (L ++ [x]) ∧ DkN w0 w' p (addD d x) ∧ Keeps Nothing w0 w') ∧
      (addC d x ≠ 0 → ∃ b, e = .returned (.iface 83 (.pointer (some ⟨b, 0, none⟩))) ∧ w.heap.size ≤ b ∧ FChain w' (addC d x) [(L.length : Int), 0] (.iface 83 (.pointer (some ⟨b, 0, none⟩))) ∧ JrN w0 w' q p L ∧ DkN w0 w' p d ∧ Keeps Nothing w0 w') := by
  obtain ⟨a, k, h1, h2, h3⟩ := h
  obtain ⟨o, c, j1, j2, j3⟩ := hj
  have hp := hg0.pos
  have hback : ∀ i, JF q p a o i → i < w0.heap.size → Nothing i := fun i h hlt => by
    rcases h with h | h | h | h
    · omega
    · omega
    · have := h3 i h; omega
    · have := j3 i h; omega
  refine (add_any (hg0.keeps K) j1 h1 hd hx hxd hL (by omega) (fun g hg => by have := h3 g hg; omega)).mono ?_
  rintro e w' ⟨A, B⟩
  refine ⟨fun hc => ?_, fun hc => ?_⟩
  · obtain ⟨he, o', c', a', k', hj', hk', kk, m1, m2⟩ := A hc
    exact ⟨he, ⟨o', c', hj', j2, m2.new K.size j3⟩, ⟨a', k', hk', h2, m1.new K.size h3⟩, K.trans kk hback⟩
  · obtain ⟨b, he, hb, hch, c', a', k', hj', hk', kk, m1⟩ := B hc
    exact ⟨b, he, hb, hch, ⟨o, c', hj', j2, j3⟩, ⟨a', k', hk', h2, m1.new K.size h3⟩, K.trans kk hback⟩
theorem entries_n {w0 w : World} {q p : Nat} {L : List EntT} (h : JrN w0 w q p L) (hl : L.length ≤ 1000000) :
    Calls Tryd.prog 18 #[.pointer (some ⟨q, 0, none⟩)] w fun e w' => ∃ o' c', e = .returned (.slice o' L.length c') ∧ OwnE w' o' c' L ∧ Keeps Nothing w w' := by
  obtain ⟨o, c, h1, _, _⟩ := h
  exact entries_any h1 hl
theorem new_n (w0 w : World) (K : Keeps Nothing w0 w) (room : Int) (h0 : 0 ≤ room) (h1 : room ≤ 16777216) :
    Calls Tryd.prog 14 #[.int .i64 room] w fun e w' => ∃ p, e = .returned (.tuple #[.pointer (some ⟨p, 0, none⟩), .nilIface]) ∧ DkN w0 w' p ⟨room, [], 0, false⟩ ∧ Keeps Nothing w0 w' := by
  refine (disk_new room h0 h1 w).mono ?_
  rintro e w' ⟨he, rfl⟩
  exact ⟨w.heap.size, he, ⟨none, 0, dk_new w room h0 h1, K.size, fun g hg => by simp [blockOf] at hg⟩, K.trans ((Keeps.refl Nothing w).alloc _) (fun _ h _ => h)⟩

end Go.Proofs.YteifmkfkekglpaaDoor

namespace Go.Proofs.YteifmkfkekglpaaDoor
open Go.RowKit

def t1 : EntT := ⟨1, 0, [120]⟩
def t2 : EntT := ⟨-1, 64, []⟩
def t3 : EntT := ⟨-3, 0, []⟩
theorem t1_good : GoodE t1 := ⟨⟨by decide, by decide, by decide, by decide⟩, by unfold frameP t1; simp, by decide⟩
theorem t2_good : GoodE t2 := ⟨⟨by decide, by decide, by decide, by decide⟩, by unfold frameP t2; simp, by decide⟩
theorem good_len {x : EntT} (h : GoodE x) (k : Nat) (hk : x.data.length ≤ k) (hk2 : k ≤ 5000) : (frameE x).length ≤ 42 + k := by
  rw [frameE_len]
  have := encE_len x h.1 (by omega)
  omega
theorem addC_good {d : DkS} {x : EntT} (h : GoodE x) (hd : d.dn = false) (hr : (d.bs.length : Int) + (frameE x).length ≤ d.room) : addC d x = 0 := by
  unfold addC DkS.append
  rw [if_pos h.2.1, if_neg (by rw [hd]; decide), if_neg (by omega)]
theorem openD_all {d : DkS} {L : List EntT} (hL : ∀ x ∈ L, GoodE x) (hb : d.bs = framesB L) : openD d = d := by
  unfold openD
  rw [hb, scanE_all L hL]
  simp only [Nat.lt_irrefl, if_false, List.take_length]
  rw [← hb]

theorem ownE_lit (w : World) (x : EntT) : OwnE (w.alloc (.cells x.cells.toArray 23)) (some ⟨w.heap.size, 0, none⟩) 1 [x] :=
  ⟨by simp [EntT.cells], .inr ⟨w.heap.size, 1, _, rfl, Nat.zero_le _, heap_alloc_new w _, Nat.le_refl _, by unfold maxLen; omega, by simp [EntT.cells], by simp [EntT.cells]⟩⟩
theorem size_n {w0 w : World} {p : Nat} {d : DkS} (h : DkN w0 w p d) : Calls Tryd.prog 22 #[.pointer (some ⟨p, 0, none⟩)] w fun e w' => e = .returned (.int .i64 d.bs.length) ∧ w' = w := by
  obtain ⟨a, k, h1, _, _⟩ := h
  exact disk_size h1
theorem t12_cut : (framesB [t1, t2]).take ((framesB [t1, t2]).length - 1) = framesB [t1] ++ (frameE t2).take ((frameE t2).length - 1) := by
  have h : 12 ≤ (frameE t2).length := by rw [frameE_len]; omega
  have e : framesB [t1, t2] = framesB [t1] ++ frameE t2 := by unfold framesB; simp
  rw [e, List.length_append, List.take_append, List.take_of_length_le (by omega)]
  congr 2
  omega
theorem t12_scan : scanE ((framesB [t1, t2]).take ((framesB [t1, t2]).length - 1)) = ([t1], (framesB [t1]).length) := by
  have h : 12 ≤ (frameE t2).length := by rw [frameE_len]; omega
  rw [t12_cut, scanE_frames [t1] (by intro x hx; rw [List.mem_singleton] at hx; subst hx; exact t1_good), scanE_cut t2 t2_good.1 (by decide) _ (by omega)]
  simp

set_option maxRecDepth 100000 in
set_option maxHeartbeats 4000000 in
theorem told26_any {w : World} (hg : ErrVar w) : Calls Tryd.prog 7 #[] w fun e w' => e = .returned (.bool true) ∧ Keeps Nothing w w' := by
  have l1 := good_len t1_good 1 (by decide) (by omega)
  have l2 := good_len t2_good 1 (by decide) (by omega)
  have l2p : 12 ≤ (frameE t2).length := by rw [frameE_len]; omega
  go_enter Tryd.func7, Tryd.ntmps7
  go_wp2_with fail
  refine (new_n w w (Keeps.refl _ _) 1000 (by omega) (by omega)).mono ?_
  rintro e w1 ⟨p, rfl, D1, K1⟩
  go_wp2_with fail
  refine (open_n D1 K1 rfl (by show 0 ≤ 5000; omega)).mono ?_
  rintro e w2 ⟨q, rfl, J2, D2, K2, -⟩
  have hs0 : scanE [] = ([], 0) := scanE_none (stepE_short (by rw [List.length_nil]; omega))
  rw [openD_all (L := []) (by simp) rfl] at D2
  have J2' : JrN w w2 q p [] := by
    have := J2
    simp only at this
    rwa [hs0] at this
  clear J2 D1 K1 hs0
  have A1 := add_n hg J2' D2 K2 rfl t1_good.1 (by decide) (by show 0 ≤ 1000000; omega)
  have A1' : Calls Tryd.prog 17 #[.pointer (some ⟨q, 0, none⟩), .agg #[.int .i64 1, .int .i64 0, .string ⟨#[120]⟩]] w2 _ := A1
  clear A1
  go_wp2_with fail
  refine A1'.mono ?_
  rintro e w3 ⟨A, -⟩
  obtain ⟨rfl, J3, D3, K3⟩ := A (addC_good t1_good rfl (by show (0 : Int) + _ ≤ 1000; omega))
  have hd3 : addD ⟨1000, [], 0, false⟩ t1 = ⟨1000, framesB [t1], (framesB [t1]).length, false⟩ := by unfold addD framesB; simp
  rw [hd3] at D3
  rw [List.nil_append] at J3
  have hl3 : (framesB [t1]).length = (frameE t1).length := by unfold framesB; simp
  have A2 := add_n hg J3 D3 K3 rfl t2_good.1 (by decide) (by show 1 ≤ 1000000; omega)
  have A2' : Calls Tryd.prog 17 #[.pointer (some ⟨q, 0, none⟩), .agg #[.int .i64 (-1), .int .i64 64, .string ⟨#[]⟩]] w3 _ := A2
  clear A A1' A2 J2' D2 K2 hd3
  go_wp2_with fail
  refine A2'.mono ?_
  rintro e w4 ⟨A, -⟩
  obtain ⟨rfl, J4, D4, K4⟩ := A (addC_good t2_good rfl (by show ((framesB [t1]).length : Int) + _ ≤ 1000; omega))
  clear A A2' J3 D3 K3
  have hd4 : addD ⟨1000, framesB [t1], (framesB [t1]).length, false⟩ t2 = ⟨1000, framesB [t1, t2], (framesB [t1, t2]).length, false⟩ := by unfold addD framesB; simp
  rw [hd4] at D4
  have hl4 : (framesB [t1, t2]).length = (frameE t1).length + (frameE t2).length := by unfold framesB; simp
  have hbnd : (framesB [t1, t2]).length ≤ 100 ∧ 12 ≤ (framesB [t1, t2]).length := by omega
  clear hd4 hl4 hl3
  have hsz := size_n D4
  simp only at hsz
  have hcut := onD_post D4 K4 (fun a k h => disk_cut h (((framesB [t1, t2]).length : Int) - 1))
  have hcd : DkS.cut ⟨1000, framesB [t1, t2], (framesB [t1, t2]).length, false⟩ (((framesB [t1, t2]).length : Int) - 1) = (0, ⟨1000, (framesB [t1, t2]).take ((framesB [t1, t2]).length - 1), (framesB [t1, t2]).length - 1, false⟩) := by
    unfold DkS.cut
    rw [if_neg (by decide), if_neg (by simp only; omega), show (((framesB [t1, t2]).length : Int) - 1).toNat = (framesB [t1, t2]).length - 1 by omega]
  rw [hcd] at hcut
  have hscan := shut t12_scan
  have hb5 : ((framesB [t1, t2]).take ((framesB [t1, t2]).length - 1)).length ≤ 5000 := by rw [List.length_take]; omega
  clear hcd
  generalize (framesB [t1, t2]).take ((framesB [t1, t2]).length - 1) = B5 at *
  generalize (framesB [t1, t2]).length = M at *
  go_wp2_with fail
  refine hsz.mono ?_
  rintro e w5 ⟨rfl, rfl⟩
  clear hsz
  go_wp2_with fail
  refine hcut.mono ?_
  rintro e w6 ⟨ev, rfl, hev, D6, K6, k6⟩
  obtain rfl := isErr_no hev
  have J6 := k6 _ _ J4
  clear hcut hev k6 J4 D4 K4
  go_wp2_with fail
  refine (open_n D6 K6 rfl hb5).mono ?_
  rintro e w7 ⟨q2, rfl, I7, D7, K7, k7⟩
  have J7 := k7 _ _ J6
  simp only at I7
  rw [hscan.out] at I7
  simp only at I7
  clear k7 J6 D6 K6
  have hdn : (openD ⟨1000, B5, M - 1, false⟩).dn = false := rfl
  generalize openD ⟨1000, B5, M - 1, false⟩ = d7 at *
  go_wp2_with fail
  refine (open_nil w7).mono ?_
  rintro e w8 ⟨ev, rfl, hev, k8⟩
  have J8 := J7.keepsN k8
  have I8 := I7.keepsN k8
  have D8 := D7.keepsN k8
  have K8 := K7.trans k8 (fun _ h _ => h)
  clear J7 I7 D7 K7
  go_wp2_with fail
  refine (entries_n I8 (by show 1 ≤ 1000000; omega)).mono ?_
  rintro e w9 ⟨o9, c9, rfl, O9, k9⟩
  have J9 := J8.keepsN k9
  have D9 := D8.keepsN k9
  have K9 := K8.trans k9 (fun _ h _ => h)
  have hev9 := hev.keeps k9 (fun i hi => hi.elim)
  clear J8 D8 K8 I8 hev
  go_wp2_with fail
  have ka : Keeps Nothing w9 (w9.alloc (.cells t1.cells.toArray 23)) := (Keeps.refl Nothing w9).alloc _
  have O10 : OwnE (w9.alloc (.cells t1.cells.toArray 23)) o9 c9 [t1] := OwnC.keepsN O9 ka
  have hcmp := rents_any (w9.alloc (.cells t1.cells.toArray 23)) [t1] (by show 1 ≤ 1000000000000; omega) O10 (ownE_lit w9 t1)
  have hcmp2 : Calls Tryd.prog 13 #[.slice o9 1 c9, .slice (some ⟨w9.heap.size, 0, none⟩) 1 1] (w9.alloc (.cells #[.int .i64 1, .int .i64 0, .string ⟨#[120]⟩] 23)) _ := hcmp
  refine hcmp2.mono ?_
  rintro e w10 ⟨rfl, k10⟩
  have ka10 := ka.trans k10 (fun _ h _ => h)
  have J10 := J9.keepsN ka10
  have D10 := D9.keepsN ka10
  have K10 := K9.trans ka10 (fun _ h _ => h)
  have hev10 := hev9.keeps ka10 (fun i hi => hi.elim)
  clear hcmp hcmp2 J9 D9 K9 hev9 O9 O10 ka k10 ka10 k9 k8
  go_wp2_with fail
  refine (is_any hev10 1 0).mono ?_
  rintro e w11 ⟨rfl, nn, rfl⟩
  have kd : Keeps Nothing w10 (w10.drewN nn) := (Keeps.refl Nothing w10).drewN _
  have J11 := J10.keepsN kd
  have D11 := D10.keepsN kd
  have K11 := K10.trans kd (fun _ h _ => h)
  clear J10 D10 K10 kd hev10
  generalize w10.drewN nn = w11 at *
  have A3 := add_n hg J11 D11 K11 hdn (x := t3) ⟨by decide, by decide, by decide, by decide⟩ (by decide) (by show 2 ≤ 1000000; omega)
  have A3' : Calls Tryd.prog 17 #[.pointer (some ⟨q, 0, none⟩), .agg #[.int .i64 (-3), .int .i64 0, .string ⟨#[]⟩]] w11 _ := A3
  clear A3
  go_wp2_with fail
  refine A3'.mono ?_
  rintro e w12 ⟨-, B⟩
  have hc3 : addC d7 t3 = 1 := by
    unfold addC
    rw [if_neg (by unfold frameP t3; simp)]
  rw [hc3] at B
  obtain ⟨b, rfl, hb, hch, J12, D12, K12⟩ := B (by decide)
  have hsame := same_any hch (by decide)
  have hsame2 : Calls Tryd.prog 27 #[.iface 83 (.pointer (some ⟨b, 0, none⟩)), .int .i64 1, .int .i64 2] w12 _ := hsame
  clear A3' B hsame
  go_wp2_with fail
  refine hsame2.mono ?_
  rintro e w13 ⟨rfl, k13⟩
  go_wp2_with fail
  go_ret
  exact ⟨rfl, K12.trans k13 (fun _ h _ => h)⟩

end Go.Proofs.YteifmkfkekglpaaDoor
