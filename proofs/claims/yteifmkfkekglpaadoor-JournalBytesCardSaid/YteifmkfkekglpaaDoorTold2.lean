/- wire.NewReader; usufructlaw2.told. -/
import Derived.Test.YteifmkfkekglpaaDoorRdA
namespace Go.Proofs.YteifmkfkekglpaaDoor
open Go.RowKit

/-- A new reader. -/
def NewRd (w : World) (bs : List UInt8) (e : Ending) (w' : World) : Prop :=
  ∃ q ao' cap', e = .returned (.pointer (some ⟨q, 0, none⟩)) ∧ Rd w' q ao' cap' bs 0 ∧ Keeps Nothing w w' ∧ w.heap.size ≤ q ∧ (∀ g, blockOf ao' = some g → w.heap.size ≤ g)

theorem Rd_bs_le {n : Nat} : 0 ≤ n := Nat.zero_le n

set_option maxHeartbeats 400000 in
theorem newReader_any {w : World} {ao : Option Addr} (c : Nat) {bs : List UInt8} (h : BytesAt w ao bs) (hl : bs.length ≤ 1000000) :
    Calls Tryd.prog 51 #[.slice ao bs.length c] w (NewRd w bs) := by
  have ha : ∀ a, ao = some a → a.block < w.heap.size ∨ bs = [] := fun a e => by
    cases bs with
    | nil => exact .inr rfl
    | cons x r =>
      have hc := h.2 a e 0 x rfl
      have := World.block_lt_of_cell? _ _ hc
      have e2 : (a.add 0).block = a.block := by unfold Addr.add; split <;> rfl
      rw [e2] at this
      exact .inl this
  have h' : BytesAt (w.alloc (.cells #[] 5)) ao bs := h.keeps ((Keeps.refl Nothing w).alloc _) (fun _ _ h => h)
  clear ha
  go_enter Tryd.func51, Tryd.ntmps51
  go_wp2_with (at_builtin; refine wpList_app8 _ rfl (.tmp 3) (.tmp 4) 25 rfl (some ⟨w.heap.size, 0, none⟩) 0 [] rfl (own8_empty w) _ rfl bs (src_at c h') ?c2 ?c3 ?_)
  case c2 => simp
  case c3 => omega
  intro ao1 cap1 w1 ho1 hk1 hm1
  go_wp2_with fail
  go_ret
  have hK1 : Keeps Nothing w w1 := ((Keeps.refl Nothing w).alloc _).trans hk1 (fun i hi hlt => by simp [blockOf] at hi; omega)
  refine ⟨_, ao1, cap1, rfl, ⟨blk_new w1 _ _, World.ownsRow.alloc ho1 _, Nat.zero_le _⟩, hK1.alloc _, hK1.size, ?_⟩
  intro g hg
  rcases hm1 with h | ⟨g', h, hg'⟩
  · rw [h] at hg; simp [blockOf] at hg; omega
  · rw [h] at hg; obtain rfl := Option.some.inj hg; omega

/-- A writer that was made since the world w0. -/
structure WrNew (w0 w : World) (p : Nat) (ao : Option Addr) (cap : Nat) (bs : List UInt8) : Prop where
  wr : Wr w p ao cap bs
  keep : Keeps Nothing w0 w
  pn : w0.heap.size ≤ p
  an : ∀ g, blockOf ao = some g → w0.heap.size ≤ g

theorem WrNew.step {w0 w w' : World} {p : Nat} {ao ao' : Option Addr} {cap cap' : Nat} {bs bs' : List UInt8} (h : WrNew w0 w p ao cap bs) (h1 : Wr w' p ao' cap' bs') (h2 : Keeps (WrF p ao) w w') (h3 : Moved w.heap.size ao ao') : WrNew w0 w' p ao' cap' bs' :=
  ⟨h1, h.keep.trans h2 (fun i hi hlt => by
    rcases hi with hi | hi
    · have := h.pn; omega
    · have := h.an i hi; omega), h.pn, h3.new h.keep.size h.an⟩

theorem WrNew.keeps {S : Nat → Prop} {w0 w w' : World} {p : Nat} {ao : Option Addr} {cap : Nat} {bs : List UInt8} (h : WrNew w0 w p ao cap bs) (hk : Keeps S w w') (hp : ¬ S p) (ha : ∀ g, blockOf ao = some g → ¬ S g) (hS : ∀ i, S i → w0.heap.size ≤ i) : WrNew w0 w' p ao cap bs :=
  ⟨⟨hk.blk h.wr.blk hp, hk.own h.wr.own (fun g hg => ha g (by rwa [ownBlock_eq] at hg))⟩, h.keep.trans hk (fun i hi hlt => by have := hS i hi; omega), h.pn, h.an⟩

theorem wrNew_new (w : World) : WrNew w (w.alloc (.cells #[.slice none 0 0] 92)) w.heap.size none 0 [] :=
  ⟨wr_new w, (Keeps.refl _ _).alloc _, Nat.le_refl _, fun g hg => by simp [blockOf] at hg⟩

theorem Wr.lt {w : World} {p : Nat} {ao : Option Addr} {cap : Nat} {bs : List UInt8} (h : Wr w p ao cap bs) : p < w.heap.size ∧ ∀ g, blockOf ao = some g → g < w.heap.size :=
  ⟨lt_of_block h.blk, fun g hg => own_lt h.own (by rw [ownBlock_eq]; exact hg)⟩

theorem told_bytes : (([] : List UInt8) ++ encU (Int.toNat 300)) ++ encI (-1) ++ encS (bytesOf ⟨#[97, 98]⟩) = [172, 2, 1, 2, 97, 98] := by
  have h1 : encU (Int.toNat 300) = [172, 2] := by rw [encU_ge (by decide), encU_lt (by decide)]; rfl
  have h2 : encI (-1) = [1] := by unfold encI zig; rw [if_pos (by decide), encU_lt (by decide)]; rfl
  have h3 : encS (bytesOf ⟨#[97, 98]⟩) = [2, 97, 98] := by unfold encS; rw [encU_lt (by decide)]; rfl
  rw [h1, h2, h3]; rfl

end Go.Proofs.YteifmkfkekglpaaDoor
