/- A net made within a call; usufructlaw29.told. -/
import Derived.Test.YteifmkfkekglpaaNet7
import Derived.Test.YteifmkfkekglpaaNet9
import Derived.Test.YteifmkfkekglpaaNet10
import Derived.Test.YteifmkfkekglpaaTold2
namespace Go.Proofs.Yteifmkfkekglpaa
open Go.RowKit

/-- Blocks of other types than a net's lie there still. -/
def Other (w w' : World) : Prop := w.heap.size ≤ w'.heap.size ∧ ∀ q cs t, Blk w q cs t → t ≠ 98 → t ≠ 27 → Blk w' q cs t
theorem Other.of {w w' : World} (k : Keeps Nothing w w') : Other w w' := ⟨k.size, fun _ _ _ h _ _ => k.blk h (fun h => h)⟩
theorem Other.trans {a b c : World} (h : Other a b) (k : Other b c) : Other a c := ⟨Nat.le_trans h.1 k.1, fun q cs t hb h1 h2 => k.2 q cs t (h.2 q cs t hb h1 h2) h1 h2⟩
theorem Other.own {w w' : World} (h : Other w w') {e : TypeId} {k : Nat} {v : Value} {n : Nat} {xs : List Value} (ho : w.ownsRow 0 e k v n xs) (h1 : e ≠ 98) (h2 : e ≠ 27) : w'.ownsRow 0 e k v n xs := by
  refine ⟨ho.1, ?_⟩
  rcases ho.2 with h3 | ⟨g, cap, cur, rfl, hg, hh, r⟩
  · exact .inl h3
  · exact .inr ⟨g, cap, cur, rfl, hg, h.2 _ _ _ hh h1 h2, r⟩
theorem NetAt.other {w w' : World} {p : Nat} {ao : Option Addr} {cap : Nat} {L : List Row8} {sent : Int} (hN : NetAt w p ao cap L sent) (k : Keeps (fun i => i = p ∨ blockOf ao = some i) w w') : Other w w' := ⟨k.size, fun q cs t hb h1 h2 =>
  k.blk hb (fun h => by
    rcases h with rfl | h
    · have := hN.blk.symm.trans hb
      simp at this
      exact h1 this.2.symm
    · exact hN.row.ne hb (fun e => h2 e.symm) h)⟩

/-- A net that was made since w0; what lay there lies there still. -/
def NT (w0 w : World) (p : Nat) (L : List Row8) (sent : Int) : Prop :=
  ∃ ao cap, NetAt w p ao cap L sent ∧ Keeps Nothing w0 w ∧ w0.heap.size ≤ p ∧ (∀ g, blockOf ao = some g → w0.heap.size ≤ g) ∧ ∀ x ∈ L, w0.heap.size ≤ x.1
theorem NT.keep {w0 w : World} {p : Nat} {L : List Row8} {sent : Int} (h : NT w0 w p L sent) : Keeps Nothing w0 w := by obtain ⟨_, _, _, k, _⟩ := h; exact k
theorem NT.keepsN {w0 w w' : World} {p : Nat} {L : List Row8} {sent : Int} (h : NT w0 w p L sent) (k : Keeps Nothing w w') : NT w0 w' p L sent := by
  obtain ⟨ao, cap, hN, K, h1, h2, h3⟩ := h
  exact ⟨ao, cap, hN.keepsN k, K.trans k (fun _ h _ => h), h1, h2, h3⟩
theorem nt_new {w0 w : World} (K : Keeps Nothing w0 w) : Calls Try.prog 17 #[] w fun e w' => ∃ p, e = .returned (.pointer (some ⟨p, 0, none⟩)) ∧ NT w0 w' p [] 0 :=
  (net_new w).mono fun e w' ⟨he, hw⟩ => ⟨_, he, none, 0, by rw [hw]; exact net_zero w, by rw [hw]; exact K.alloc _, K.size, fun g hg => (by cases hg), fun x hx => (by cases hx)⟩
theorem nt_under {w0 w : World} {p : Nat} {L : List Row8} {sent : Int} (h : NT w0 w p L sent) : Calls Try.prog 24 #[.pointer (some ⟨p, 0, none⟩)] w fun e w' => e = .returned (.int .i64 (L.length : Int)) ∧ w' = w := by
  obtain ⟨ao, cap, hN, _⟩ := h; exact net_under hN
theorem nt_sent {w0 w : World} {p : Nat} {L : List Row8} {sent : Int} (h : NT w0 w p L sent) : Calls Try.prog 25 #[.pointer (some ⟨p, 0, none⟩)] w fun e w' => e = .returned (.int .i64 sent) ∧ w' = w := by
  obtain ⟨ao, cap, hN, _⟩ := h; exact net_sent hN
theorem NT.move {w0 w w' : World} {p : Nat} {ao ao' : Option Addr} {cap cap' : Nat} {L L' : List Row8} {sent sent' : Int} (hN : NetAt w p ao cap L sent) (K : Keeps Nothing w0 w) (h1 : w0.heap.size ≤ p) (h2 : ∀ g, blockOf ao = some g → w0.heap.size ≤ g)
    (hN' : NetAt w' p ao' cap' L' sent') (k : Keeps (fun i => i = p ∨ blockOf ao = some i) w w') (h2' : ∀ g, blockOf ao' = some g → w0.heap.size ≤ g) (h3' : ∀ x ∈ L', w0.heap.size ≤ x.1) : NT w0 w' p L' sent' :=
  ⟨ao', cap', hN', K.trans k (fun i hi hlt => by rcases hi with rfl | hi
                                                 · omega
                                                 · have := h2 i hi; omega), h1, h2', h3'⟩
theorem nt_send {w0 w : World} {p : Nat} {L : List Row8} {sent : Int} (h : NT w0 w p L sent) (s0 : 0 ≤ sent) (s1 : sent < 1000000000) (hl : L.length < 4096)
    {C : Array Value} {m : MsgT} {am : Option Addr} {cm : Nat} (hC : MsgC C m am cm) (hM : MsgAt w m am cm) (hS : MsgSmall m) (hy : mayP m) :
    Calls Try.prog 18 #[.pointer (some ⟨p, 0, none⟩), .agg C] w fun e w' => ∃ b c, e = .returned .nilIface ∧ NT w0 w' p (L ++ [(b, c, encMsg m)]) (sent + 1) ∧ Other w w' := by
  obtain ⟨ao, cap, hN, K, h1, h2, h3⟩ := h
  refine (net_send hN s0 s1 (by omega) hC hM hS).mono fun e w' hp => ?_
  obtain ⟨ao', cap', b, c, he, hN', k, hb, hm⟩ := hp.1 hy hl
  have hs := K.size
  refine ⟨b, c, he, NT.move hN K h1 h2 hN' k (hm.new hs h2) (fun x hx => ?_), hN.other k⟩
  rcases List.mem_append.1 hx with hx | hx
  · exact h3 x hx
  · rw [List.mem_singleton] at hx; subst hx; exact Nat.le_trans hs hb
theorem nt_full {w0 w : World} {p : Nat} {L : List Row8} {sent : Int} (h : NT w0 w p L sent) (s0 : 0 ≤ sent) (s1 : sent < 1000000000) (hl : ¬ L.length < 4096) (hl2 : L.length ≤ 1000000)
    {C : Array Value} {m : MsgT} {am : Option Addr} {cm : Nat} (hC : MsgC C m am cm) (hM : MsgAt w m am cm) (hS : MsgSmall m) (hy : mayP m) :
    Calls Try.prog 18 #[.pointer (some ⟨p, 0, none⟩), .agg C] w fun e w' => ∃ b, e = .returned (.iface 100 (.pointer (some ⟨b, 0, none⟩))) ∧ IsErr w.heap.size w' (.iface 100 (.pointer (some ⟨b, 0, none⟩))) 12 0 ∧ NT w0 w' p L sent ∧ Other w w' := by
  have h0 := h
  obtain ⟨ao, cap, hN, K, h1, h2, h3⟩ := h
  refine (net_send hN s0 s1 hl2 hC hM hS).mono fun e w' hp => ?_
  obtain ⟨b, he, hE, k⟩ := hp.2.2 hy hl
  exact ⟨b, he, hE, h0.keepsN k, .of k⟩
theorem nt_bad {w0 w : World} {p : Nat} {L : List Row8} {sent : Int} (h : NT w0 w p L sent) (s0 : 0 ≤ sent) (s1 : sent < 1000000000) (hl2 : L.length ≤ 1000000)
    {C : Array Value} {m : MsgT} {am : Option Addr} {cm : Nat} (hC : MsgC C m am cm) (hM : MsgAt w m am cm) (hS : MsgSmall m) (hy : ¬ mayP m) :
    Calls Try.prog 18 #[.pointer (some ⟨p, 0, none⟩), .agg C] w fun e w' => ∃ b, e = .returned (.iface 100 (.pointer (some ⟨b, 0, none⟩))) ∧ IsErr w.heap.size w' (.iface 100 (.pointer (some ⟨b, 0, none⟩))) 1 0 ∧ NT w0 w' p L sent ∧ Other w w' := by
  have h0 := h
  obtain ⟨ao, cap, hN, K, h1, h2, h3⟩ := h
  refine (net_send hN s0 s1 hl2 hC hM hS).mono fun e w' hp => ?_
  obtain ⟨b, he, hE, k⟩ := hp.2.1 hy
  exact ⟨b, he, hE, h0.keepsN k, .of k⟩
theorem nt_take {w0 w : World} {p : Nat} {L : List Row8} {sent : Int} (h : NT w0 w p L sent) (k : Int) (hn : 0 < L.length) (hl : L.length ≤ 1000000) {x : Row8} (hx : L[placeN k L.length]? = some x) :
    Calls Try.prog 22 #[.pointer (some ⟨p, 0, none⟩), .int .i64 k] w fun e w' => e = .returned (.tuple #[rowV x, .nilIface]) ∧ NT w0 w' p (L.eraseIdx (placeN k L.length)) sent ∧ Own8 w' 5 (some ⟨x.1, 0, none⟩) x.2.1 x.2.2 ∧ Other w w' := by
  obtain ⟨ao, cap, hN, K, h1, h2, h3⟩ := h
  refine (net_take hN k hn hl hx).mono fun e w' hp => ?_
  obtain ⟨ao', cap', he, hN', hb, k'⟩ := hp
  exact ⟨he, NT.move hN K h1 h2 hN' k' (fun g hg => h2 g (hb ▸ hg)) (fun y hy => h3 y (List.mem_of_mem_eraseIdx hy)), hN.took (List.mem_of_getElem? hx) k', hN.other k'⟩
theorem nt_take0 {w0 w : World} {p : Nat} {sent : Int} (h : NT w0 w p [] sent) (k : Int) :
    Calls Try.prog 22 #[.pointer (some ⟨p, 0, none⟩), .int .i64 k] w fun e w' => ∃ b, e = .returned (.tuple #[.slice none 0 0, .iface 100 (.pointer (some ⟨b, 0, none⟩))]) ∧ IsErr w.heap.size w' (.iface 100 (.pointer (some ⟨b, 0, none⟩))) 10 0 ∧ NT w0 w' p [] sent := by
  have h0 := h
  obtain ⟨ao, cap, hN, K, h1, h2, h3⟩ := h
  exact (net_take0 hN k).mono fun e w' ⟨b, he, hE, k⟩ => ⟨b, he, hE, h0.keepsN k⟩
theorem nt_double {w0 w : World} {p : Nat} {L : List Row8} {sent : Int} (h : NT w0 w p L sent) (k : Int) (hn : 0 < L.length) (hl : L.length < 4096) {x : Row8} (hx : L[placeN k L.length]? = some x) (hxl : x.2.2.length ≤ 1000000) (hne : x.2.2 ≠ []) :
    Calls Try.prog 20 #[.pointer (some ⟨p, 0, none⟩), .int .i64 k] w fun e w' => ∃ b c, e = .returned .nilIface ∧ NT w0 w' p (L ++ [(b, c, x.2.2)]) sent ∧ Other w w' := by
  obtain ⟨ao, cap, hN, K, h1, h2, h3⟩ := h
  refine (net_double hN k hn hl hx hxl hne).mono fun e w' hp => ?_
  obtain ⟨ao', cap', b, c, he, hN', k', hb, hm⟩ := hp
  have hs := K.size
  refine ⟨b, c, he, NT.move hN K h1 h2 hN' k' (hm.new hs h2) (fun x hx => ?_), hN.other k'⟩
  rcases List.mem_append.1 hx with hx | hx
  · exact h3 x hx
  · rw [List.mem_singleton] at hx; subst hx; exact Nat.le_trans hs hb
theorem nt_doubleF {w0 w : World} {p : Nat} {L : List Row8} {sent : Int} (h : NT w0 w p L sent) (k : Int) (hn : 4096 ≤ L.length) (hl : L.length ≤ 1000000) :
    Calls Try.prog 20 #[.pointer (some ⟨p, 0, none⟩), .int .i64 k] w fun e w' => ∃ b, e = .returned (.iface 100 (.pointer (some ⟨b, 0, none⟩))) ∧ IsErr w.heap.size w' (.iface 100 (.pointer (some ⟨b, 0, none⟩))) 12 0 ∧ NT w0 w' p L sent ∧ Other w w' := by
  have h0 := h
  obtain ⟨ao, cap, hN, K, h1, h2, h3⟩ := h
  exact (net_doubleF hN k hn hl).mono fun e w' ⟨b, he, hE, k⟩ => ⟨b, he, hE, h0.keepsN k, .of k⟩

/-! ### messages of a few numbers -/
def msg3 (k f t : Int) : MsgT := ⟨k, f, t, 0, 0, [], zeros32, [], [], []⟩
def msg3C (k f t : Int) : Array Value := ((zeroC.setIfInBounds 0 (.int .i64 k)).setIfInBounds 1 (.int .i64 f)).setIfInBounds 2 (.int .i64 t)
theorem msg3_is (k f t : Int) : MsgC (msg3C k f t) (msg3 k f t) none 0 := ((zeroC_is.setKind k).setFrm f).setTo t
theorem msg3_at (w : World) {k f t : Int} (hk : -9223372036854775808 ≤ k ∧ k < 9223372036854775808) (hf : -9223372036854775808 ≤ f ∧ f < 9223372036854775808) (ht : -9223372036854775808 ≤ t ∧ t < 9223372036854775808) : MsgAt w (msg3 k f t) none 0 :=
  ⟨hk.1, hk.2, hf.1, hf.2, ht.1, ht.2, (show (-9223372036854775808 : Int) ≤ 0 by decide), (show (0 : Int) < 9223372036854775808 by decide), (show (-9223372036854775808 : Int) ≤ 0 by decide), (show (0 : Int) < 9223372036854775808 by decide), ⟨fun _ => rfl, fun a e => (by cases e)⟩, fun h hh => (by cases hh), Nat.le_refl _, Nat.zero_le _⟩
theorem msg3_small (k f t : Int) : MsgSmall (msg3 k f t) := ⟨Nat.zero_le _, Nat.zero_le _, Nat.zero_le _⟩
theorem encMsg_len {m : MsgT} (hM : mayP m) (h32 : m.hash.length = 32) (hh : ∀ h ∈ m.hashes, h.length = 32) : (encMsg m).length ≤ 132 + m.name.length + 32 * m.hashes.length + m.blob.length + m.sig.length := by
  unfold mayP at hM
  obtain ⟨kd, fr, tt, cr, ep, nm, hs, hl, bl, sg⟩ := m
  simp only at hM h32 hh ⊢
  obtain ⟨y1, y2, ⟨y3, y4⟩, ⟨y5, y6⟩, _, _, y7, y8, y9, y10, y11, y12, y13, y14⟩ := hM
  have hfl : ∀ l : List (List UInt8), (∀ h ∈ l, h.length = 32) → l.flatten.length = 32 * l.length := by
    intro l
    induction l with
    | nil => intro _; rfl
    | cons x l ih => intro h; rw [List.flatten_cons, List.length_append, ih (fun y hy => h y (by simp [hy])), h x (by simp), List.length_cons]; omega
  have a1 := encI_len kd (by omega) (by omega)
  have a2 := encI_len fr (by omega) (by omega)
  have a3 := encI_len tt (by omega) (by omega)
  have a4 := encI_len cr (by omega) (by omega)
  have a5 := encI_len ep (by omega) (by omega)
  have a6 := encS_len nm (by omega)
  have a7 := encU_len10 (show hl.length < 18446744073709551616 by omega)
  have a8 := encS_len bl (by omega)
  have a9 := encS_len sg (by omega)
  have a10 := hfl hl hh
  unfold encMsg
  simp only [List.length_append]
  omega

end Go.Proofs.Yteifmkfkekglpaa
