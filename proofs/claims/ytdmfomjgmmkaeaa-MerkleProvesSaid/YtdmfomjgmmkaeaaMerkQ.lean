/- The document's sides; what a proof's sums are made of, from the leaf up. The document's sides: the walk. The document's made: the plain law. The document's made: the walk. The document's Check. A proof as an argument. A sum of a row turned at a byte. -/
import Derived.Test.YtdmfomjgmmkaeaaMerkP
import Derived.Deep.Strs
namespace Go.Proofs.Ytdmfomjgmmkaeaa
open Go.RowKit

/-- A row of truths of its own. -/
abbrev OwnB (w : World) (ao : Option Addr) (cap : Nat) (bs : List Bool) : Prop := w.ownsRow 0 4 1 (.slice ao bs.length cap) bs.length (bs.map .bool)
theorem ownB_nil (w : World) : OwnB w none 0 [] := World.ownsRow_nil w _ _ _
theorem infoB : (Try.prog.info? 4).map (fun i => (i.zero, i.size, i.bytes)) = some (some (.bool false), 1, 1) := by kernel_rfl
theorem wpList_appB (w : World) {ops : Array Oper} {rest : List Oper} {o : Oper} {a : Act} {Q : Exit → Act → World → Prop} (hgd : o.guard = none) (s x : Operand)
    (ho : o.op = .call { callee := .builtin .append, args := #[s, x], argTypes := #[93, 93] })
    (ao : Option Addr) (cap : Nat) (bs : List Bool) (n : Nat) (hn : bs.length = n) (hsv : a.eval s = .slice ao n cap) (hown : OwnB w ao cap bs) (g : Nat) (d : Bool)
    (hx : a.eval x = .slice (some ⟨g, 0, none⟩) 1 1) (hg : Blk w g #[.bool d] 4) (hb : n ≤ 1000000000)
    (h : ∀ ao' cap' w', OwnB w' ao' cap' (bs ++ [d]) → Keeps (fun k => blockOf ao = some k) w w' → Moved w.heap.size ao ao' → wpList Try.prog ops Q rest (a.put o.dst (.slice ao' (n + 1) cap')) w') : wpList Try.prog ops Q (o :: rest) a w := by
  subst hn
  obtain ⟨i0, hi, hz0, hz1, hz2⟩ := info_parts3 infoB
  have hsr : Src Try.prog 1 93 (.slice (some ⟨g, 0, none⟩) 1 1) 1 [.bool d] w := Src.ofSlice _ Try.underlying93 ⟨g, 0, none⟩ 1 1 _ rfl (fun j u hj => by
    rw [Addr.add_mid', Nat.zero_add]
    exact blk_cell hg j (by simpa using hj)) (by intro u hu; simp at hu; subst hu; rfl)
  refine wpList_append_src w hgd s x 93 93 ho 4 i0 (.bool false) 1 1 Try.underlying93 hi hz0 hz1 hz2 (by rfl) ao bs.length cap (bs.map .bool) hsv hown _ 1 [.bool d] hx hsr
    (by unfold maxLen; omega) (by omega) fun ao' cap' w' h1 h2 h3 => ?_
  have e1 : bs.map Value.bool ++ [.bool d] = (bs ++ [d]).map .bool := by simp
  have e2 : bs.length + 1 = (bs ++ [d]).length := by rw [List.length_append]; rfl
  refine h ao' cap' w' ?_ ((Keeps.refl _ _).grown h2 (fun k hk _ => hk)) h3
  rw [e1, e2] at h1
  exact h1

/-- On which side a leaf's way stands, from the leaf up. -/
def sidesF : Nat → Nat → Nat → List Bool
  | 0, _, _ => []
  | f + 1, n, i => if n ≤ 1 then [] else if i < splitN n then sidesF f (splitN n) i ++ [true] else sidesF f (n - splitN n) (i - splitN n) ++ [false]
def sidesL (n i : Nat) : List Bool := sidesF n n i
theorem sidesF_more : ∀ (f g n i : Nat), n ≤ f → n ≤ g → sidesF f n i = sidesF g n i := by
  intro f
  induction f with
  | zero =>
    intro g n i h1 h2
    obtain rfl : n = 0 := by omega
    cases g <;> rfl
  | succ f ih =>
    intro g n i h1 h2
    cases g with
    | zero =>
      obtain rfl : n = 0 := by omega
      rfl
    | succ g =>
      show (if n ≤ 1 then [] else _) = if n ≤ 1 then [] else _
      by_cases h : n ≤ 1
      · rw [if_pos h, if_pos h]
      · obtain ⟨s0, s1⟩ := splitN_lt (n := n) (by omega)
        rw [if_neg h, if_neg h, ih g (splitN n) i (by omega) (by omega), ih g (n - splitN n) (i - splitN n) (by omega) (by omega)]
theorem sidesL_one {n i : Nat} (h : n ≤ 1) : sidesL n i = [] := by
  unfold sidesL
  cases n with
  | zero => rfl
  | succ n => exact if_pos h
theorem sidesL_step {n i : Nat} (h : 2 ≤ n) : sidesL n i = if i < splitN n then sidesL (splitN n) i ++ [true] else sidesL (n - splitN n) (i - splitN n) ++ [false] := by
  obtain ⟨s0, s1⟩ := splitN_lt h
  obtain ⟨f, rfl⟩ : ∃ f, n = f + 1 := ⟨n - 1, by omega⟩
  unfold sidesL
  rw [show sidesF (f + 1) (f + 1) i = if i < splitN (f + 1) then sidesF f (splitN (f + 1)) i ++ [true] else sidesF f (f + 1 - splitN (f + 1)) (i - splitN (f + 1)) ++ [false] from if_neg (by omega)]
  rw [sidesF_more f (splitN (f + 1)) _ i (by omega) (Nat.le_refl _), sidesF_more f (f + 1 - splitN (f + 1)) _ _ (by omega) (Nat.le_refl _)]
theorem sidesL_len : ∀ (N n i : Nat), n ≤ N → (sidesL n i).length = pathLen n i := by
  intro N
  induction N with
  | zero =>
    intro n i h
    rw [sidesL_one (by omega), pathLen_one (by omega)]; rfl
  | succ N ih =>
    intro n i h
    by_cases h1 : n ≤ 1
    · rw [sidesL_one h1, pathLen_one h1]; rfl
    · obtain ⟨s0, s1⟩ := splitN_lt (n := n) (by omega)
      rw [sidesL_step (by omega), pathLen_step (by omega)]
      split
      · rw [List.length_append, ih _ _ (by omega)]; rfl
      · rw [List.length_append, ih _ _ (by omega)]; rfl
/-- Few sides: splitN halves. -/
theorem splitF_half (n : Nat) : ∀ (f k e : Nat), k = 2 ^ e → 0 < k → k < n → n ≤ k + f → ∃ e2, splitF n f k = 2 ^ e2 ∧ n ≤ 2 * splitF n f k := by
  intro f
  induction f with
  | zero => intro k e _ _ h1 h2; omega
  | succ f ih =>
    intro k e he h0 h1 h2
    by_cases h : k < n - k
    · rw [splitF_step h]
      exact ih (k * 2) (e + 1) (by rw [he, Nat.pow_succ]) (by omega) (by omega) (by omega)
    · rw [splitF_stop h]
      exact ⟨e, he, by omega⟩
theorem splitN_pow {n : Nat} (h : 2 ≤ n) : ∃ e, splitN n = 2 ^ e ∧ n ≤ 2 * splitN n := splitF_half n n 1 0 rfl (by omega) (by omega) (by omega)
theorem pathLen_le : ∀ (e n i : Nat), n ≤ 2 ^ e → pathLen n i ≤ e := by
  intro e
  induction e with
  | zero => intro n i h; rw [pathLen_one (by simpa using h)]; exact Nat.le_refl _
  | succ e ih =>
    intro n i h
    by_cases h1 : n ≤ 1
    · rw [pathLen_one h1]; omega
    · obtain ⟨s0, s1⟩ := splitN_lt (n := n) (by omega)
      obtain ⟨f, hf, hh⟩ := splitN_pow (n := n) (by omega)
      have hs : splitN n ≤ 2 ^ e := by
        rw [hf] at s1 ⊢
        have h3 : 2 ^ f < 2 ^ (e + 1) := by omega
        have h4 : f < e + 1 := (Nat.pow_lt_pow_iff_right (by decide)).1 h3
        exact Nat.pow_le_pow_right (by decide) (by omega)
      rw [pathLen_step (by omega)]
      split
      · exact Nat.succ_le_succ (ih _ _ hs)
      · exact Nat.succ_le_succ (ih _ _ (by omega))

def stepC (out : List (List UInt8)) (e : Bool × List UInt8) : List (List UInt8) := out ++ [if e.1 then nodeB (shaOf (out.getLastD [])) e.2 else nodeB e.2 (shaOf (out.getLastD []))]
/-- The texts from the leaf up. -/
def chainL (b : List UInt8) (s : List Bool) (p : List (List UInt8)) : List (List UInt8) := (s.zip p).foldl stepC [leafB b]
theorem chainL_snoc (b : List UInt8) (s : List Bool) (p : List (List UInt8)) (d : Bool) (x : List UInt8) (h : s.length = p.length) : chainL b (s ++ [d]) (p ++ [x]) = stepC (chainL b s p) (d, x) := by
  unfold chainL
  rw [List.zip_append h, List.foldl_append]
  rfl
theorem upL_chain (b : List UInt8) : ∀ (m i n : Nat) (p : List (List UInt8)), p.length = m → 1 ≤ n → m = pathLen n i → (upL b i n p).1 = chainL b (sidesL n i) p ∧ (upL b i n p).2.1 = shaOf ((chainL b (sidesL n i) p).getLastD []) := by
  intro m
  induction m with
  | zero =>
    intro i n p hp h1 hm
    obtain rfl : p = [] := List.eq_nil_of_length_eq_zero hp
    by_cases h : n = 1
    · subst h
      rw [upL_one, sidesL_one (by omega)]
      exact ⟨rfl, rfl⟩
    · rw [pathLen_step (by omega)] at hm
      split at hm <;> omega
  | succ m ih =>
    intro i n p hp h1 hm
    obtain ⟨q, x, rfl⟩ : ∃ q x, p = q ++ [x] := ⟨p.dropLast, p.getLast (by rintro rfl; simp at hp), (List.dropLast_concat_getLast _).symm⟩
    have hq : q.length = m := by simp at hp; exact hp
    by_cases h : n = 1
    · subst h
      rw [pathLen_one (by omega)] at hm
      omega
    · obtain ⟨s0, s1⟩ := splitN_lt (n := n) (by omega)
      by_cases hi : i < splitN n
      · rw [pathLen_step (by omega), if_pos hi] at hm
        have hm' : m = pathLen (splitN n) i := by omega
        obtain ⟨e1, e2⟩ := ih i (splitN n) q hq (by omega) hm'
        rw [upL_left b h hi, sidesL_step (by omega), if_pos hi, chainL_snoc _ _ _ _ _ (by rw [sidesL_len _ _ _ (Nat.le_refl _), hq]; omega), e1, e2]
        unfold stepC
        simp
      · rw [pathLen_step (by omega), if_neg hi] at hm
        have hm' : m = pathLen (n - splitN n) (i - splitN n) := by omega
        obtain ⟨e1, e2⟩ := ih (i - splitN n) (n - splitN n) q hq (by omega) hm'
        rw [upL_right b h hi, sidesL_step (by omega), if_neg hi, chainL_snoc _ _ _ _ _ (by rw [sidesL_len _ _ _ (Nat.le_refl _), hq]; omega), e1, e2]
        unfold stepC
        simp

end Go.Proofs.Ytdmfomjgmmkaeaa

namespace Go.Proofs.Ytdmfomjgmmkaeaa
open Go.RowKit

def SidesPost (w : World) (n i : Nat) (e : Ending) (w' : World) : Prop :=
  ∃ ao cap, e = .returned (.slice ao (sidesL n i).length cap) ∧ OwnB w' ao cap (sidesL n i) ∧ Keeps Nothing w w' ∧ (∀ g, blockOf ao = some g → w.heap.size ≤ g)

set_option maxRecDepth 100000 in
set_option maxHeartbeats 2000000 in
theorem rsides_rec : ∀ (N : Nat) (w : World) (n i : Nat), n ≤ N → 1 ≤ n → n < 9223372036854775808 → i < n →
    Calls Try.prog 61 #[.int .i64 (n : Int), .int .i64 (i : Int)] w (SidesPost w n i) := by
  intro N
  induction N with
  | zero => intro w n i hN h1; omega
  | succ N ih =>
    intro w n i hN h1 hn9 hi
    by_cases h2 : n = 1
    · subst h2
      have HE := shut (sidesL_one (n := 1) (i := i) (by omega))
      clear ih
      go_enter Try.func61, Try.ntmps61
      go_wp2_with fail
      go_ret
      exact ⟨none, 0, by rw [HE.out]; rfl, by rw [HE.out]; exact ownB_nil w, Keeps.refl _ _, fun g hg => by cases hg⟩
    · have hn2 : 2 ≤ n := by omega
      obtain ⟨s0, s1⟩ := splitN_lt hn2
      have hsp := fun W => rhalf_any W n hn2 (by omega)
      obtain ⟨k, hk⟩ : ∃ k, splitN n = k := ⟨_, rfl⟩
      rw [hk] at s0 s1 hsp
      have m1 : ¬ (n : Int) ≤ 1 := by omega
      by_cases hik : i < k
      · have m3 : (i : Int) < k := by omega
        have ih1 := fun W => ih W k i (by omega) (by omega) (by omega) hik
        unfold SidesPost at ih1
        have hst := sidesL_step (n := n) (i := i) (by omega)
        rw [hk, if_pos hik] at hst
        have hl := sidesL_len n n i (Nat.le_refl _)
        have hl2 := pathLen_le 63 n i (by have : (2 : Nat) ^ 63 = 9223372036854775808 := rfl; omega)
        rw [hl.symm, hst, List.length_append] at hl2
        clear hl
        obtain ⟨P1, hP1⟩ : ∃ P1, sidesL k i = P1 := ⟨_, rfl⟩
        rw [hP1] at hst hl2
        simp only [hP1] at ih1
        obtain ⟨L1, hL1⟩ : ∃ L1, P1.length = L1 := ⟨_, rfl⟩
        rw [hL1] at hl2
        simp only [hL1] at ih1
        have HST := shut hst
        clear hst hP1 hk ih hN
        go_enter Try.func61, Try.ntmps61
        go_wp2_with fail
        refine (hsp _).mono ?_
        rintro e w1 ⟨rfl, hw⟩
        subst w1
        go_wp2_with fail
        refine (ih1 _).mono ?_
        rintro e w1 ⟨a1, c1, rfl, o1, k1, f1⟩
        have HF1 := shut f1
        have o2 : OwnB (w1.alloc (.cells #[.bool true] 4)) a1 c1 P1 := World.ownsRow.alloc o1 _
        have D2 := blk_new w1 #[.bool true] 4
        have K2 := k1.alloc (.cells #[.bool true] 4)
        have hs2 := K2.size
        rw [World.size_alloc] at hs2
        clear f1 ih1 o1 k1
        go_wp2_with (at_builtin; refine wpList_appB _ rfl (.tmp 15) (.tmp 16) rfl a1 c1 P1 L1 hL1 rfl o2 w1.heap.size true rfl D2 (by simp at hl2; omega) ?_)
        intro a4 c4 w4 o4 k4 m4
        have K4 := K2.trans k4 (fun i hi hlt => by have := HF1.out i hi; omega)
        have HF4 := shut (m4.new (B := w.heap.size) hs2 HF1.out)
        clear o2 D2 K2 k4 m4 HF1
        go_wp2_with fail
        go_ret
        exact ⟨a4, c4, by rw [HST.out, List.length_append, List.length_singleton, hL1]; rfl, by rw [HST.out]; exact o4, K4, HF4.out⟩
      · have m3 : ¬ (i : Int) < k := by omega
        have ih1 := fun W => ih W (n - k) (i - k) (by omega) (by omega) (by omega) (by omega)
        unfold SidesPost at ih1
        have m4 : (i : Int) - k = ((i - k : Nat) : Int) := by omega
        have m5 : (n : Int) - k = ((n - k : Nat) : Int) := by omega
        have hst := sidesL_step (n := n) (i := i) (by omega)
        rw [hk, if_neg hik] at hst
        have hl := sidesL_len n n i (Nat.le_refl _)
        have hl2 := pathLen_le 63 n i (by have : (2 : Nat) ^ 63 = 9223372036854775808 := rfl; omega)
        rw [hl.symm, hst, List.length_append] at hl2
        clear hl
        obtain ⟨P1, hP1⟩ : ∃ P1, sidesL (n - k) (i - k) = P1 := ⟨_, rfl⟩
        rw [hP1] at hst hl2
        simp only [hP1] at ih1
        obtain ⟨L1, hL1⟩ : ∃ L1, P1.length = L1 := ⟨_, rfl⟩
        rw [hL1] at hl2
        simp only [hL1] at ih1
        have HST := shut hst
        clear hst hP1 hk ih hN
        go_enter Try.func61, Try.ntmps61
        go_wp2_with fail
        refine (hsp _).mono ?_
        rintro e w1 ⟨rfl, hw⟩
        subst w1
        go_wp2_with fail
        refine (ih1 _).mono ?_
        rintro e w1 ⟨a1, c1, rfl, o1, k1, f1⟩
        have HF1 := shut f1
        have o2 : OwnB (w1.alloc (.cells #[.bool false] 4)) a1 c1 P1 := World.ownsRow.alloc o1 _
        have D2 := blk_new w1 #[.bool false] 4
        have K2 := k1.alloc (.cells #[.bool false] 4)
        have hs2 := K2.size
        rw [World.size_alloc] at hs2
        clear f1 ih1 o1 k1
        go_wp2_with (at_builtin; refine wpList_appB _ rfl (.tmp 24) (.tmp 25) rfl a1 c1 P1 L1 hL1 rfl o2 w1.heap.size false rfl D2 (by simp at hl2; omega) ?_)
        intro a4 c4 w4 o4 k4 m4
        have K4 := K2.trans k4 (fun i hi hlt => by have := HF1.out i hi; omega)
        have HF4 := shut (m4.new (B := w.heap.size) hs2 HF1.out)
        clear o2 D2 K2 k4 m4 HF1
        go_wp2_with fail
        go_ret
        exact ⟨a4, c4, by rw [HST.out, List.length_append, List.length_singleton, hL1]; rfl, by rw [HST.out]; exact o4, K4, HF4.out⟩

end Go.Proofs.Ytdmfomjgmmkaeaa

namespace Go.Proofs.Ytdmfomjgmmkaeaa
open Go.RowKit

theorem foldC_facts : ∀ (l : List (Bool × List UInt8)) (out : List (List UInt8)) (M : Nat), 65 ≤ M → (∀ e ∈ l, e.2.length = 32) → (∀ t ∈ out, t.length ≤ M) → (l.foldl stepC out).length = out.length + l.length ∧ ∀ t ∈ l.foldl stepC out, t.length ≤ M := by
  intro l
  induction l with
  | nil => intro out M _ _ h; exact ⟨rfl, h⟩
  | cons e l ih =>
    intro out M hM h32 h
    have he := h32 e (by simp)
    obtain ⟨h1, h2⟩ := ih (stepC out e) M hM (fun x hx => h32 x (by simp [hx])) (fun t ht => by
      unfold stepC at ht
      rcases List.mem_append.1 ht with ht | ht
      · exact h t ht
      · rw [List.mem_singleton] at ht
        subst ht
        split
        · unfold nodeB; simp [sha_len, he]; omega
        · unfold nodeB; simp [sha_len, he]; omega)
    rw [List.foldl_cons]
    refine ⟨?_, h2⟩
    rw [h1]
    unfold stepC
    simp
    omega
theorem chainL_facts (b : List UInt8) (s : List Bool) (p : List (List UInt8)) (hl : s.length = p.length) (h32 : ∀ x ∈ p, x.length = 32) : (chainL b s p).length = p.length + 1 ∧ ∀ t ∈ chainL b s p, t.length ≤ b.length + 65 := by
  obtain ⟨h1, h2⟩ := foldC_facts (s.zip p) [leafB b] (b.length + 65) (by omega) (fun e he => h32 e.2 (List.of_mem_zip he).2) (fun t ht => by rw [List.mem_singleton] at ht; subst ht; unfold leafB; simp)
  refine ⟨?_, h2⟩
  show (List.foldl stepC [leafB b] (s.zip p)).length = _
  rw [h1, List.length_zip, hl]
  simp
  omega

def rmadeL (b : List UInt8) (ix ct : Int) (path : List (List UInt8)) : List (List UInt8) × Bool :=
  if 0 ≤ ix ∧ ix < ct then
    if path.length = pathLen ct.toNat ix.toNat then (chainL b (sidesL ct.toNat ix.toNat) path ++ [topB ct.toNat (shaOf ((chainL b (sidesL ct.toNat ix.toNat) path).getLastD []))], true) else ([], false)
  else ([], false)
theorem madeL_rmade (b : List UInt8) (ix ct : Int) (path : List (List UInt8)) : madeL b ix ct path = (rmadeL b ix ct path).1.reverse := by
  unfold madeL rmadeL
  by_cases h : 0 ≤ ix ∧ ix < ct
  · rw [if_pos h, if_pos h, upL_ok b _ _ _ path rfl (by omega)]
    by_cases h2 : path.length = pathLen ct.toNat ix.toNat
    · obtain ⟨e1, e2⟩ := upL_chain b _ _ _ path rfl (by omega) h2
      rw [if_pos (by simpa using h2), if_pos h2, e1, e2]
      simp
    · rw [if_neg (by simpa using h2), if_neg h2]
      rfl
  · rw [if_neg h, if_neg h]
    rfl
theorem rmadeL_ok (b : List UInt8) (ix ct : Int) (path : List (List UInt8)) : (rmadeL b ix ct path).2 = false → (rmadeL b ix ct path).1 = [] := by
  unfold rmadeL
  intro h
  split
  · rename_i h1
    rw [if_pos h1] at h
    split
    · rename_i h2
      rw [if_pos h2] at h
      cases h
    · rfl
  · rfl
theorem rmadeL_bad (b : List UInt8) {ix ct : Int} {path : List (List UInt8)} (h : ¬ (0 ≤ ix ∧ ix < ct) ∨ path.length ≠ pathLen ct.toNat ix.toNat) : rmadeL b ix ct path = ([], false) := by
  unfold rmadeL
  by_cases h1 : 0 ≤ ix ∧ ix < ct
  · rw [if_pos h1, if_neg (h.resolve_left (fun q => q h1))]
  · rw [if_neg h1]
theorem rmadeL_good (b : List UInt8) {i n : Nat} {path : List (List UInt8)} (h : i < n) (h2 : path.length = pathLen n i) : rmadeL b (i : Int) (n : Int) path = (chainL b (sidesL n i) path ++ [topB n (shaOf ((chainL b (sidesL n i) path).getLastD []))], true) := by
  unfold rmadeL
  rw [if_pos (by omega), Int.toNat_natCast, Int.toNat_natCast, if_pos h2]
theorem rmadeL_two (b : List UInt8) (ix ct : Int) (path : List (List UInt8)) : rmadeL b ix ct path = ([], false) ∨ ∃ c t, rmadeL b ix ct path = (c ++ [t], true) := by
  unfold rmadeL
  split
  · split
    · exact .inr ⟨_, _, rfl⟩
    · exact .inl rfl
  · exact .inl rfl
theorem checkL_rmade (root b : List UInt8) (ix ct : Int) (path : List (List UInt8)) : checkL root b ix ct path = ((rmadeL b ix ct path).2 && (shaOf ((rmadeL b ix ct path).1.getLastD []) == root)) := by
  unfold checkL
  rw [madeL_rmade]
  rcases rmadeL_two b ix ct path with h | ⟨c, t, h⟩
  · rw [h]; rfl
  · rw [h]
    simp
theorem rmadeL_len (b : List UInt8) (ix ct : Int) (path : List (List UInt8)) (h32 : ∀ x ∈ path, x.length = 32) : (rmadeL b ix ct path).1.length ≤ path.length + 2 ∧ ∀ t ∈ (rmadeL b ix ct path).1, t.length ≤ b.length + 65 := by
  unfold rmadeL
  split
  · split
    · rename_i h1 h2
      obtain ⟨f1, f2⟩ := chainL_facts b (sidesL ct.toNat ix.toNat) path (by rw [sidesL_len _ _ _ (Nat.le_refl _), h2]) h32
      refine ⟨by rw [List.length_append, f1]; simp, fun t ht => ?_⟩
      rcases List.mem_append.1 ht with ht | ht
      · exact f2 t ht
      · rw [List.mem_singleton] at ht
        subst ht
        unfold topB
        simp [sha_len, be8_len]
    · exact ⟨by simp, fun t ht => by cases ht⟩
  · exact ⟨by simp, fun t ht => by cases ht⟩

theorem ownS_rows {w : World} {ao : Option Addr} {cap : Nat} {rows : List (List UInt8)} {vs : List Value} (h : OwnS w ao cap rows vs) : RowsAt w ao rows := by
  rcases h.own.2 with ⟨hv, hn⟩ | ⟨g, cap', cur, hv, _⟩
  · simp only [Value.slice.injEq] at hv
    obtain ⟨rfl, _, _⟩ := hv
    have : rows = [] := List.eq_nil_of_length_eq_zero hn
    subst this
    exact ⟨fun _ => rfl, fun a e => by cases e⟩
  · simp only [Value.slice.injEq] at hv
    obtain ⟨rfl, _, rfl⟩ := hv
    refine ⟨fun e => (by cases e), fun a e j l hl => ?_⟩
    obtain rfl := Option.some.inj e
    obtain ⟨al, cl, h1, h2⟩ := h.each j l hl
    have hc := World.ownsRow.cells h.own (g := g) rfl j _ h1
    obtain ⟨c1, c2⟩ := own8_cap h2
    exact ⟨rfl, al, cl, hc, own8_at h2, c1, by unfold maxLen; omega⟩
theorem ownS_cap {w : World} {ao : Option Addr} {cap : Nat} {rows : List (List UInt8)} {vs : List Value} (h : OwnS w ao cap rows vs) : rows.length ≤ cap ∧ cap ≤ maxLen := by
  rcases h.own.2 with ⟨hv, hn⟩ | ⟨g, cap', cur, hv, _, _, h1, h2, _⟩
  · simp only [Value.slice.injEq] at hv
    obtain ⟨_, _, rfl⟩ := hv
    exact ⟨by omega, Nat.zero_le _⟩
  · simp only [Value.slice.injEq] at hv
    obtain ⟨_, _, rfl⟩ := hv
    exact ⟨h1, h2⟩
theorem cell_lt {w : World} {a : Addr} {v : Value} (h : w.cell? a = some v) : a.block < w.heap.size := by
  unfold World.cell? at h
  rcases Nat.lt_or_ge a.block w.heap.size with q | q
  · exact q
  · rw [Array.getElem?_eq_none q] at h
    simp at h
theorem hashes_lt {w : World} {b o : Nat} {hs : List (List UInt8)} (h : HashesAt w (some ⟨b, o, none⟩) hs) (h1 : 1 ≤ hs.length) : b < w.heap.size := by
  obtain ⟨_, h2, h3⟩ := h.2 _ rfl 0 hs[0] (List.getElem?_eq_getElem (by omega))
  have h4 := h3 0 (byteV (hs[0][0]'(by omega))) (by rw [List.getElem?_map, List.getElem?_eq_getElem (by omega)]; rfl)
  exact cell_lt h4

end Go.Proofs.Ytdmfomjgmmkaeaa

namespace Go.Proofs.Ytdmfomjgmmkaeaa
open Go.RowKit

def RMadePost (w : World) (r : List (List UInt8) × Bool) (e : Ending) (w' : World) : Prop :=
  ∃ ao cap vs, e = .returned (.tuple #[.slice ao r.1.length cap, .bool r.2]) ∧ OwnS w' ao cap r.1 vs ∧ Keeps Nothing w w'

theorem take_addG {α : Type} {l : List α} {i : Nat} {c : α} (h : l[i]? = some c) : l.take (i + 1) = l.take i ++ [c] := by
  rw [List.take_add_one, h]; rfl

attribute [local go_sem ↓] exec_mid_hash exec_load_hash exec_store_hash
attribute [local go_sem] rowOk_new World.setRow_alloc_new

set_option maxRecDepth 100000 in
set_option maxHeartbeats 4000000 in
theorem rmade_any {w : World} {ab : Option Addr} {nb cb : Nat} {b : List UInt8} (hB : BytesAt w ab b) (hnb : b.length = nb) (hnb9 : nb ≤ 1000) (ix ct : Int) (hct : ct < 9223372036854775808) {ap : Option Addr} {m c : Nat} {path : List (List UInt8)} (hm : path.length = m) (hH : HashesAt w ap path) (hmc : m ≤ c) (hcm : c ≤ maxLen) (hm9 : m ≤ 100000) :
    Calls Try.prog 51 #[.slice ab nb cb, .agg #[.int .i64 ix, .int .i64 ct, .slice ap m c]] w (RMadePost w (rmadeL b ix ct path)) := by
  have hcm9 : c ≤ 9223372036854775807 := by unfold maxLen at hcm; omega
  have K0 := (Keeps.refl Nothing w).alloc (.cells #[.int .i64 ix, .int .i64 ct, .slice ap m c] 46)
  by_cases hin : 0 ≤ ix ∧ ix < ct
  · obtain ⟨i, rfl⟩ := Int.eq_ofNat_of_zero_le hin.1
    obtain ⟨n, rfl⟩ := Int.eq_ofNat_of_zero_le (show 0 ≤ ct by omega)
    have hi : i < n := by omega
    have m1 : ¬ (i : Int) < 0 := by omega
    have m2 : ¬ (n : Int) ≤ i := by omega
    have P0 := blk_new w #[.int .i64 (i : Int), .int .i64 (n : Int), .slice ap m c] 46
    have hsd := fun V => rsides_rec n V n i (Nat.le_refl _) (by omega) (by omega) hi
    unfold SidesPost at hsd
    obtain ⟨S, hS⟩ : ∃ S, sidesL n i = S := ⟨_, rfl⟩
    have hSl := sidesL_len n n i (Nat.le_refl _)
    simp only [hS] at hsd
    rw [hS] at hSl
    obtain ⟨l, hl⟩ : ∃ l, S.length = l := ⟨_, rfl⟩
    simp only [hl] at hsd
    rw [hl] at hSl
    by_cases hml : l = m
    · subst hml
      have hg := rmadeL_good b hi (path := path) (by rw [hm, hSl])
      rw [hS] at hg
      obtain ⟨cf1, cf2⟩ := chainL_facts b S path (by rw [hl, hm]) hH.all32
      obtain ⟨RM, hRM⟩ : ∃ RM, rmadeL b (i : Int) (n : Int) path = RM := ⟨_, rfl⟩
      rw [hRM] at hg ⊢
      have HG := shut hg
      have b0 := blk_cell P0 0 rfl
      have b1 := blk_cell P0 1 rfl
      have hn0 : n ≠ 0 := by omega
      clear hg hRM hSl hS hin
      go_enter Try.func51, Try.ntmps51
      go_wp2_with fail
      refine (hsd _).mono ?_
      rintro e w0 ⟨asd, csd, rfl, oS, kS, fS⟩
      have K1 := K0.trans kS (fun _ h _ => h)
      have P1 := kS.blk P0 (fun h => h)
      have p1 := blk_cell P1 2 rfl
      clear b0 b1 hsd K0 P0 kS fS
      generalize w.heap.size = g0 at *
      go_wp2_with fail
      refine (rleaf_any cb hnb (hB.keepsN K1) (by omega)).mono ?_
      rintro e w2 ⟨a2, c2, rfl, o2, k2, f2⟩
      go_wp2_with fail
      obtain ⟨l2, hl2⟩ : ∃ l2, (leafB b).length = l2 := ⟨_, rfl⟩
      have hl2b : l2 ≤ 1001 := by rw [← hl2]; unfold leafB; simp; omega
      rw [hl2]
      have O3 : OwnS (w2.alloc (.cells #[.slice a2 l2 c2] 22)) (some ⟨w2.heap.size, 0, none⟩) 1 [leafB b] [.slice a2 l2 c2] := ⟨⟨rfl, .inr ⟨w2.heap.size, 1, #[.slice a2 l2 c2], rfl, Nat.zero_le _, heap_alloc_new w2 _, Nat.le_refl _, by decide, rfl, rfl⟩⟩, fun j x hx => by
        match j, hx with
        | 0, hx =>
          obtain rfl := Option.some.inj hx
          exact ⟨a2, c2, by rw [hl2]; rfl, World.ownsRow.alloc o2 _⟩
        | j + 1, hx => simp at hx⟩
      have K3 := k2.alloc (.cells #[.slice a2 l2 c2] 22)
      have hs2 := k2.size
      clear o2 k2 f2
      go_loopw [7, 8] (fun s7 s8 wx => ∃ (t : Nat) (ao : Option Addr) (cap : Nat) (rows : List (List UInt8)) (vs : List Value), s7 = .slice ao (t + 1) cap ∧ s8 = .int .i64 t ∧ t ≤ l ∧ Shut (rows = chainL b (S.take t) (path.take t)) ∧ Shut (rows.length = t + 1) ∧ Shut (∀ x ∈ rows, x.length ≤ 2000) ∧ OwnS wx ao cap rows vs ∧ Keeps Nothing w0 wx ∧ Shut (∀ g, blockOf ao = some g → w0.heap.size ≤ g)) (fun _ s8 _ => l - (intOf s8).toNat)
      case atStart => exact ⟨0, _, 1, [leafB b], _, rfl, rfl, by omega, shut (by simp [chainL]), shut rfl, shut (fun x hx => by rw [List.mem_singleton.1 hx]; omega), O3, K3, shut (fun g hg => by simp [blockOf] at hg; omega)⟩
      case round =>
        clear O3 K3
        obtain ⟨t, ao, cap, rows, vs, rfl, rfl, ht, HQ, HLN, HLL, O, K, HF⟩ := hrel
        obtain ⟨last, hlast⟩ : ∃ last, rows[t]? = some last := ⟨rows[t]'(by have := HLN.out; omega), List.getElem?_eq_getElem (by have := HLN.out; omega)⟩
        have HLAST := shut (show rows.getLastD [] = last from by
          have h1 : rows ≠ [] := fun e => by rw [e] at hlast; simp at hlast
          rw [List.getLastD_eq_getLast?, List.getLast?_eq_getElem?, HLN.out]
          rw [show t + 1 - 1 = t from rfl, hlast]; rfl)
        have hll := HLL.out last (List.mem_of_getElem? hlast)
        obtain ⟨hc1, hc2⟩ := ownS_cap O
        rw [HLN.out] at hc1
        obtain ⟨ga, hga⟩ : ∃ ga, ao = some ⟨ga, 0, none⟩ := by
          rcases ownS_head O with e4 | e4
          · have h9 := (ownS_rows O).1 e4
            have := HLN.out
            rw [h9] at this
            simp at this
          · exact e4
        obtain ⟨_, aL, cL, hcell, hBy, _, _⟩ := (ownS_rows O).2 _ hga t last hlast
        rw [Addr.add_mid', Nat.zero_add] at hcell
        have hcl2 : wr.cell? (⟨ga, t, none⟩ : Addr) = some (.slice aL last.length cL) := hcell
        obtain ⟨ll, hle⟩ : ∃ ll, last.length = ll := ⟨_, rfl⟩
        rw [hle] at hcl2 hll
        have hsm := fun V (K : Keeps Nothing wr V) => rsum_any (w := V) cL hle (hBy.keepsN K) (by omega)
        obtain ⟨X, hX, hXv, hXs, hag⟩ := hash_agg last
        rw [hXv] at hsm
        have HX := shut hX
        clear hX hXv hcell hBy hlast
        have e1 : ((t : Int) + 1) - 1 = (t : Int) := by omega
        have e2 : (((t + 1 : Nat) : Int)) - 1 = (t : Int) := by omega
        by_cases hlt : t < l
        · have m3 : (t : Int) < l := by omega
          obtain ⟨d, hd⟩ : ∃ d, S[t]? = some d := ⟨S[t]'(by omega), List.getElem?_eq_getElem (by omega)⟩
          obtain ⟨y, hy⟩ : ∃ y, path[t]? = some y := ⟨path[t]'(by omega), List.getElem?_eq_getElem (by omega)⟩
          obtain ⟨pb, po, rfl⟩ := hH.head (by omega)
          obtain ⟨_, hy32, r0⟩ := (hH.keepsN K1).2 _ rfl t y hy
          have hpb := hashes_lt (hH.keepsN K1) (by omega)
          obtain ⟨CY, hCY⟩ : ∃ CY, CY = (y.map byteV).toArray := ⟨_, rfl⟩
          have HCY := shut hCY
          have hyl : (y.map byteV).length = 32 := by rw [List.length_map]; exact hy32
          obtain ⟨gs, rfl⟩ : ∃ gs, asd = some ⟨gs, 0, none⟩ := by
            rcases oS.2 with ⟨hv, hn9⟩ | ⟨g, cap', cur, hv, _⟩
            · omega
            · simp only [Value.slice.injEq] at hv
              exact ⟨g, hv.1⟩
          have hsc := World.ownsRow.cells oS (g := gs) rfl t (.bool d) (by rw [List.getElem?_map, hd]; rfl)
          rw [Addr.add_mid', Nat.zero_add] at hsc
          have hsc2 := K.cell hsc (fun h => h)
          clear hsc hCY
          subst hga
          go_wp2_with fail
          refine (hsm _ (Keeps.refl _ _)).mono ?_
          rintro e w8 ⟨rfl, k8⟩
          clear hcl2 hsm
          have hsc8 := k8.cell hsc2 (fun h => h)
          have hsc9 := (k8.alloc (.cells X 25)).cell hsc2 (fun h => h)
          cases d with
          | true =>
            go_wp2_with fail
            have K9 := (K.trans k8 (fun _ h _ => h)).alloc (.cells X 25)
            have B9 := blk_new w8 X 25
            have O9 : OwnS (w8.alloc (.cells X 25)) (some ⟨ga, 0, none⟩) cap rows vs := (O.keepsN k8).keepsN ((Keeps.refl Nothing w8).alloc (.cells X 25))
            have p9 := K9.cell p1 (fun h => h)
            have r9 := rangeAt_keeps r0 K9 (fun h => h)
            have lw : ga < w8.heap.size := by
              have h1 := own_lt (O.keepsN k8).own (k := ga) (by rw [ownBlock_eq]; rfl)
              exact h1
            have lg := HF.out ga rfl
            have lP := lt_of_block P1
            clear K O k8 hsc2 hsc8 hsc9
            generalize w8.alloc (.cells X 25) = w9 at *
            generalize w8.heap.size = g9 at *
            have ne9 : ¬ g9 = ga := by omega
            have neP : ¬ g0 = ga := by omega
            have nep : ¬ pb = ga := by omega
            go_wp2_with fail
            refine wp_region_mix (fun V => Keeps (fun k => k = ga) w9 V) [(true, 0), (true, 1), (true, 2), (true, 3), (true, 4), (true, 5), (true, 6), (false, 7), (false, 8), (false, 9), (true, 10)] (by kernel_rfl) (by kernel_rfl) (Keeps.refl _ _).drew ?_
            simp only [mixItems, List.map_cons, List.map_nil, List.getD_cons_zero, List.getD_cons_succ]
            repeat (refine wpMix_free (fun K hK => ?_); go_simp; refine hK _ ?_; clear hK K)
            refine wpMix_yield (v := .agg X) (fun V hV => ?_) (fun K hK => ?_)
            · have y1 := hV.blk B9 ne9
              have y2 := rowOk_blk (n := 32) y1 hXs
              have y3 := rowOf_blk y1
              go_simp
            go_simp
            refine hK _ ?_
            clear hK K
            repeat (refine wpMix_free (fun K hK => ?_); go_simp; refine hK _ ?_; clear hK K)
            refine wpMix_yield (v := .slice (some ⟨pb, po, none⟩) l c) (fun V hV => ?_) (fun K hK => ?_)
            · have y1 := hV.cell p9 neP
              go_simp
            go_simp
            refine hK _ ?_
            clear hK K
            repeat (refine wpMix_free (fun K hK => ?_); go_simp; refine hK _ ?_; clear hK K)
            refine wpMix_yield (v := .agg CY) (fun V hV => ?_) (fun K hK => ?_)
            · have z1 := rangeAt_keeps r9 hV nep
              have k1 := midOk_range z1
              have k2 := midOf_range z1
              rw [hyl] at k1 k2
              rw [HCY.out.symm] at k2
              go_simp
            go_simp
            refine hK _ ?_
            clear hK K
            repeat (refine wpMix_free (fun K hK => ?_); go_simp; refine hK _ ?_; clear hK K)
            refine wpMix_one (fun K hK => ?_)
            go_wp2_with fail
            refine (rpair_any _ (sha_len last) hy32 HX.out HCY.out).mono ?_
            rintro e w10 ⟨a10, c10, rfl, o10, k10, -⟩
            have kk10 : Keeps (fun k => k = ga) w9 w10 := ((Keeps.refl (fun k => k = ga) w9).drew).trans k10 (fun _ h _ => h.elim)
            obtain ⟨l10, hl10⟩ : ∃ l10, (nodeB (shaOf last) y).length = l10 := ⟨_, rfl⟩
            have hl10b : l10 ≤ 2000 := by rw [← hl10]; unfold nodeB; simp [sha_len, hy32]
            have O10 : OwnS w10 (some ⟨ga, 0, none⟩) cap rows vs := (O9.keepsN ((Keeps.refl Nothing w9).drew)).keepsN k10
            generalize hT : nodeB (shaOf last) y = T at *
            rw [hl10]
            have HT := shut hT
            go_wp2_with fail
            refine hK _ _ kk10 ?_
            clear hK K
            refine wpMix_one (fun K hK => ?_)
            go_wp2_with fail
            have kk11 := kk10.alloc (.cells #[.slice a10 l10 c10] 22)
            have O11 := O10.keepsN ((Keeps.refl Nothing w10).alloc (.cells #[.slice a10 l10 c10] 22))
            have D11 := blk_new w10 #[.slice a10 l10 c10] 22
            have o11 : Own8 (w10.alloc (.cells #[.slice a10 l10 c10] 22)) 5 a10 c10 T := World.ownsRow.alloc o10 _
            refine hK _ _ kk11 ?_
            clear hK K k10 kk10 O10 o10 O9 hT
            refine wpMix_one (fun K hK => ?_)
            go_wp2_with (at_builtin; refine wpList_appS _ rfl (.tmp 51) (.tmp 59) rfl (some ⟨ga, 0, none⟩) cap rows vs (t + 1) HLN.out rfl O11 w10.heap.size T a10 c10 hl10 rfl D11 o11 (by omega) ?_)
            intro a12 c12 w12 o12 k12 m12
            have kk12 := kk11.trans k12 (fun i h _ => by simp only [blockOf, Option.map_some, Option.some.injEq] at h; exact h.symm)
            have K12 : Keeps Nothing w0 w12 := K9.trans kk12 (fun i hi hlt => by omega)
            have hs12 := kk11.size
            rw [World.size_alloc] at hs12
            have HF12 := shut (m12.new (B := w0.heap.size) (by have := K9.size; first | omega | (simp only [World.size_alloc]; omega)) HF.out)
            refine hK _ _ kk12 ?_
            clear hK K kk11 kk12 k12 m12 O11 o11 D11 K9 HF B9 p9 r9
            repeat (refine wpMix_free (fun K hK => ?_); go_simp; refine hK _ ?_; clear hK K)
            refine wpMix_nil ?_
            go_wp2_with fail
            go_roundw
            case rel => exact ⟨t + 1, a12, c12, rows ++ [T], _, rfl, by go_num, by omega, shut (by rw [take_addG hd, take_addG hy, chainL_snoc _ _ _ _ _ (by rw [List.length_take, List.length_take]; omega), ← HQ.out]; unfold stepC; rw [← HT.out, HLAST.out]; rfl), shut (by rw [List.length_append, HLN.out]; rfl), shut (fun x hx => by
              rcases List.mem_append.1 hx with q | q
              · exact HLL.out x q
              · rw [List.mem_singleton.1 q]; omega), o12, K12, HF12⟩
            case measure => simp [intOf]; omega
          | false =>
            go_wp2_with fail
            have K9 := (K.trans k8 (fun _ h _ => h)).alloc (.cells X 25)
            have B9 := blk_new w8 X 25
            have O9 : OwnS (w8.alloc (.cells X 25)) (some ⟨ga, 0, none⟩) cap rows vs := (O.keepsN k8).keepsN ((Keeps.refl Nothing w8).alloc (.cells X 25))
            have p9 := K9.cell p1 (fun h => h)
            have r9 := rangeAt_keeps r0 K9 (fun h => h)
            have lw : ga < w8.heap.size := by
              have h1 := own_lt (O.keepsN k8).own (k := ga) (by rw [ownBlock_eq]; rfl)
              exact h1
            have lg := HF.out ga rfl
            have lP := lt_of_block P1
            clear K O k8 hsc2 hsc8 hsc9
            generalize w8.alloc (.cells X 25) = w9 at *
            generalize w8.heap.size = g9 at *
            have ne9 : ¬ g9 = ga := by omega
            have neP : ¬ g0 = ga := by omega
            have nep : ¬ pb = ga := by omega
            go_wp2_with fail
            refine wp_region_mix (fun V => Keeps (fun k => k = ga) w9 V) [(true, 0), (true, 1), (true, 2), (true, 3), (true, 4), (true, 5), (true, 6), (false, 7), (false, 8), (false, 9), (true, 10)] (by kernel_rfl) (by kernel_rfl) (Keeps.refl _ _).drew ?_
            simp only [mixItems, List.map_cons, List.map_nil, List.getD_cons_zero, List.getD_cons_succ]
            repeat (refine wpMix_free (fun K hK => ?_); go_simp; refine hK _ ?_; clear hK K)
            refine wpMix_yield (v := .slice (some ⟨pb, po, none⟩) l c) (fun V hV => ?_) (fun K hK => ?_)
            · have y1 := hV.cell p9 neP
              go_simp
            go_simp
            refine hK _ ?_
            clear hK K
            repeat (refine wpMix_free (fun K hK => ?_); go_simp; refine hK _ ?_; clear hK K)
            refine wpMix_yield (v := .agg CY) (fun V hV => ?_) (fun K hK => ?_)
            · have z1 := rangeAt_keeps r9 hV nep
              have k1 := midOk_range z1
              have k2 := midOf_range z1
              rw [hyl] at k1 k2
              rw [HCY.out.symm] at k2
              go_simp
            go_simp
            refine hK _ ?_
            clear hK K
            repeat (refine wpMix_free (fun K hK => ?_); go_simp; refine hK _ ?_; clear hK K)
            refine wpMix_yield (v := .agg X) (fun V hV => ?_) (fun K hK => ?_)
            · have y1 := hV.blk B9 ne9
              have y2 := rowOk_blk (n := 32) y1 hXs
              have y3 := rowOf_blk y1
              go_simp
            go_simp
            refine hK _ ?_
            clear hK K
            repeat (refine wpMix_free (fun K hK => ?_); go_simp; refine hK _ ?_; clear hK K)
            refine wpMix_one (fun K hK => ?_)
            go_wp2_with fail
            refine (rpair_any _ hy32 (sha_len last) HCY.out HX.out).mono ?_
            rintro e w10 ⟨a10, c10, rfl, o10, k10, -⟩
            have kk10 : Keeps (fun k => k = ga) w9 w10 := ((Keeps.refl (fun k => k = ga) w9).drew).trans k10 (fun _ h _ => h.elim)
            obtain ⟨l10, hl10⟩ : ∃ l10, (nodeB y (shaOf last)).length = l10 := ⟨_, rfl⟩
            have hl10b : l10 ≤ 2000 := by rw [← hl10]; unfold nodeB; simp [sha_len, hy32]
            have O10 : OwnS w10 (some ⟨ga, 0, none⟩) cap rows vs := (O9.keepsN ((Keeps.refl Nothing w9).drew)).keepsN k10
            generalize hT : nodeB y (shaOf last) = T at *
            rw [hl10]
            have HT := shut hT
            go_wp2_with fail
            refine hK _ _ kk10 ?_
            clear hK K
            refine wpMix_one (fun K hK => ?_)
            go_wp2_with fail
            have kk11 := kk10.alloc (.cells #[.slice a10 l10 c10] 22)
            have O11 := O10.keepsN ((Keeps.refl Nothing w10).alloc (.cells #[.slice a10 l10 c10] 22))
            have D11 := blk_new w10 #[.slice a10 l10 c10] 22
            have o11 : Own8 (w10.alloc (.cells #[.slice a10 l10 c10] 22)) 5 a10 c10 T := World.ownsRow.alloc o10 _
            refine hK _ _ kk11 ?_
            clear hK K k10 kk10 O10 o10 O9 hT
            refine wpMix_one (fun K hK => ?_)
            go_wp2_with (at_builtin; refine wpList_appS _ rfl (.tmp 61) (.tmp 69) rfl (some ⟨ga, 0, none⟩) cap rows vs (t + 1) HLN.out rfl O11 w10.heap.size T a10 c10 hl10 rfl D11 o11 (by omega) ?_)
            intro a12 c12 w12 o12 k12 m12
            have kk12 := kk11.trans k12 (fun i h _ => by simp only [blockOf, Option.map_some, Option.some.injEq] at h; exact h.symm)
            have K12 : Keeps Nothing w0 w12 := K9.trans kk12 (fun i hi hlt => by omega)
            have hs12 := kk11.size
            rw [World.size_alloc] at hs12
            have HF12 := shut (m12.new (B := w0.heap.size) (by have := K9.size; first | omega | (simp only [World.size_alloc]; omega)) HF.out)
            refine hK _ _ kk12 ?_
            clear hK K kk11 kk12 k12 m12 O11 o11 D11 K9 HF B9 p9 r9
            repeat (refine wpMix_free (fun K hK => ?_); go_simp; refine hK _ ?_; clear hK K)
            refine wpMix_nil ?_
            go_wp2_with fail
            go_roundw
            case rel => exact ⟨t + 1, a12, c12, rows ++ [T], _, rfl, by go_num, by omega, shut (by rw [take_addG hd, take_addG hy, chainL_snoc _ _ _ _ _ (by rw [List.length_take, List.length_take]; omega), ← HQ.out]; unfold stepC; rw [← HT.out, HLAST.out]; rfl), shut (by rw [List.length_append, HLN.out]; rfl), shut (fun x hx => by
              rcases List.mem_append.1 hx with q | q
              · exact HLL.out x q
              · rw [List.mem_singleton.1 q]; omega), o12, K12, HF12⟩
            case measure => simp [intOf]; omega
        · obtain rfl : t = l := by omega
          have m3 : ¬ (t : Int) < t := by omega
          have HQ2 : Shut (rows = chainL b S path) := shut (by rw [HQ.out, List.take_of_length_le (by omega), List.take_of_length_le (by omega)])
          have q1 := K.cell (blk_cell P1 1 rfl) (fun h => h)
          have lP := lt_of_block P1
          subst hga
          have neP : ¬ g0 = ga := by have := HF.out ga rfl; omega
          have ew : IntKind.i64.wrap (t : Int) = (t : Int) := by rw [IntKind.wrap_i64]; omega
          have e3 : (t : Int) < (t : Int) + 1 := by omega
          have htp := fun V => rtop_any V n (by omega) (sha_len last) HX.out (T := shaOf last) (by rw [if_neg hn0])
          clear HQ
          go_wp2_with fail
          refine wp_region_mix (fun V => Keeps (fun k => k = ga) wr V) [(true, 0), (true, 1), (true, 2), (true, 3), (true, 4), (true, 5), (true, 6), (true, 7), (false, 8), (false, 9), (false, 10), (false, 11), (false, 12), (true, 13), (true, 14)] (by kernel_rfl) (by kernel_rfl) (Keeps.refl _ _).drew ?_
          simp only [mixItems, List.map_cons, List.map_nil, List.getD_cons_zero, List.getD_cons_succ]
          repeat (refine wpMix_free (fun K hK => ?_); go_simp; refine hK _ ?_; clear hK K)
          refine wpMix_yield (v := .int .i64 (n : Int)) (fun V hV => ?_) (fun K hK => ?_)
          · have y1 := hV.cell q1 neP
            go_simp
          go_simp
          refine hK _ ?_
          clear hK K
          repeat (refine wpMix_free (fun K hK => ?_); go_simp; refine hK _ ?_; clear hK K)
          clear ew
          refine wpMix_one (fun K hK => ?_)
          go_wp2_with fail
          refine hK _ _ (Keeps.refl _ _).drew ?_
          clear hK K
          refine wpMix_one (fun K hK => ?_)
          go_wp2_with fail
          refine (hsm _ (Keeps.refl _ _).drew).mono ?_
          rintro e w8 ⟨rfl, k8⟩
          have kk8 : Keeps Nothing wr w8 := ((Keeps.refl Nothing wr).drew).trans k8 (fun _ h _ => h)
          go_wp2_with fail
          refine hK _ _ (kk8.mono (fun _ h _ => h.elim)) ?_
          clear hK K k8 hcl2 hsm
          refine wpMix_one (fun K hK => ?_)
          go_wp2_with fail
          refine (htp _).mono ?_
          rintro e w10 ⟨a10, c10, rfl, o10, k10, -⟩
          have kk10 := kk8.trans k10 (fun _ h _ => h)
          have O10 := O.keepsN kk10
          obtain ⟨l10, hl10⟩ : ∃ l10, (topB n (shaOf last)).length = l10 := ⟨_, rfl⟩
          rw [hl10]
          go_wp2_with fail
          refine hK _ _ (kk10.mono (fun _ h _ => h.elim)) ?_
          clear hK K k10 kk8 htp
          refine wpMix_one (fun K hK => ?_)
          go_wp2_with fail
          have kk11 := kk10.alloc (.cells #[.slice a10 l10 c10] 22)
          have O11 := O10.keepsN ((Keeps.refl Nothing w10).alloc (.cells #[.slice a10 l10 c10] 22))
          have D11 := blk_new w10 #[.slice a10 l10 c10] 22
          have o11 : Own8 (w10.alloc (.cells #[.slice a10 l10 c10] 22)) 5 a10 c10 (topB n (shaOf last)) := World.ownsRow.alloc o10 _
          refine hK _ _ (kk11.mono (fun _ h _ => h.elim)) ?_
          clear hK K kk10 O10 o10
          refine wpMix_one (fun K hK => ?_)
          go_wp2_with (at_builtin; refine wpList_appS _ rfl (.tmp 71) (.tmp 82) rfl (some ⟨ga, 0, none⟩) cap rows vs (t + 1) HLN.out rfl O11 w10.heap.size (topB n (shaOf last)) a10 c10 hl10 rfl D11 o11 (by omega) ?_)
          intro a12 c12 w12 o12 k12 m12
          have kk12 : Keeps (fun k => k = ga) wr w12 := (kk11.mono (S' := fun k => k = ga) (fun _ h _ => h.elim)).trans k12 (fun i h _ => by simp only [blockOf, Option.map_some, Option.some.injEq] at h; exact h.symm)
          refine hK _ _ kk12 ?_
          clear hK K
          repeat (refine wpMix_free (fun K hK => ?_); go_simp; refine hK _ ?_; clear hK K)
          refine wpMix_nil ?_
          go_wp2_with fail
          go_ret2
          have hfin : RM = (rows ++ [topB n (shaOf last)], true) := by rw [HG.out, ← HQ2.out, HLAST.out]
          refine ⟨a12, c12, _, ?_, by rw [hfin]; exact o12, (K1.trans K (fun _ h _ => h)).trans kk12 (fun i hi hlt => by have := HF.out ga rfl; have := K1.size; omega)⟩
          rw [hfin]
          show _ = Ending.returned (.tuple #[.slice a12 (rows ++ [topB n (shaOf last)]).length c12, .bool true])
          rw [List.length_append, HLN.out]
          rfl
    · have HR := shut (rmadeL_bad b (ix := (i : Int)) (ct := (n : Int)) (path := path) (.inr (by rw [hm, Int.toNat_natCast, Int.toNat_natCast]; omega)))
      have b0 := blk_cell P0 0 rfl
      have b1 := blk_cell P0 1 rfl
      have hm3 : ¬ (l : Int) = m := by omega
      have hm4 : ((l : Int) == m) = false := by rw [beq_eq_false_iff_ne]; omega
      have hm5 : ((l : Int) != m) = true := by rw [bne_iff_ne]; omega
      clear hSl hS hin
      go_enter Try.func51, Try.ntmps51
      go_wp2_with fail
      refine (hsd _).mono ?_
      rintro e w0 ⟨asd, csd, rfl, oS, kS, fS⟩
      have K1 := K0.trans kS (fun _ h _ => h)
      have P1 := kS.blk P0 (fun h => h)
      have p1 := blk_cell P1 2 rfl
      clear b0 b1 hsd K0 P0 kS fS
      go_wp2_with fail
      go_ret2
      exact ⟨none, 0, [], by rw [HR.out]; rfl, by rw [HR.out]; exact ownS_nil _, K1⟩
  · have HR := shut (rmadeL_bad b (ix := ix) (ct := ct) (path := path) (.inl hin))
    have hin2 : ix < 0 ∨ (¬ ix < 0 ∧ ct ≤ ix) := by omega
    clear hin
    rcases hin2 with m1 | ⟨m1, m2⟩
    · go_enter Try.func51, Try.ntmps51
      go_wp2_with fail
      go_ret2
      exact ⟨none, 0, [], by rw [HR.out]; rfl, by rw [HR.out]; exact ownS_nil _, K0⟩
    · go_enter Try.func51, Try.ntmps51
      go_wp2_with fail
      go_ret2
      exact ⟨none, 0, [], by rw [HR.out]; rfl, by rw [HR.out]; exact ownS_nil _, K0⟩

end Go.Proofs.Ytdmfomjgmmkaeaa

namespace Go.Proofs.Ytdmfomjgmmkaeaa
open Go.RowKit

attribute [local go_sem ↓] exec_mid_hash exec_load_hash exec_store_hash
attribute [local go_sem] rowOk_new World.setRow_alloc_new

set_option maxRecDepth 100000 in
set_option maxHeartbeats 2000000 in
theorem rcheck_any {w : World} {root : List UInt8} (hr : root.length = 32) {R : Array Value} (eR : R = (root.map byteV).toArray) {ab : Option Addr} {nb cb : Nat} {b : List UInt8} (hB : BytesAt w ab b) (hnb : b.length = nb) (hnb9 : nb ≤ 1000) (ix ct : Int) (hct : ct < 9223372036854775808) {ap : Option Addr} {m c : Nat} {path : List (List UInt8)} (hm : path.length = m) (hH : HashesAt w ap path) (hmc : m ≤ c) (hcm : c ≤ maxLen) (hm9 : m ≤ 100000) :
    Calls Try.prog 31 #[.agg R, .slice ab nb cb, .agg #[.int .i64 ix, .int .i64 ct, .slice ap m c]] w fun e w' => e = .returned (.bool (checkL root b ix ct path)) ∧ Keeps Nothing w w' := by
  have hmade := fun W (K : Keeps Nothing w W) => rmade_any (w := W) (cb := cb) (hB.keeps K (fun _ _ h => h)) hnb hnb9 ix ct hct hm (hH.keepsN K) hmc hcm hm9
  obtain ⟨l1, l2⟩ := rmadeL_len b ix ct path hH.all32
  have htwo := rmadeL_two b ix ct path
  have hck := checkL_rmade root b ix ct path
  obtain ⟨C, hC⟩ : ∃ C, checkL root b ix ct path = C := ⟨_, rfl⟩
  rw [hC] at hck ⊢
  obtain ⟨RM, hRM⟩ : ∃ RM, rmadeL b ix ct path = RM := ⟨_, rfl⟩
  rw [hRM] at hmade l1 l2 htwo hck
  have HCK := shut hck
  have HTW := shut htwo
  have hRs : R.size = 32 := by rw [eR]; simp [hr]
  have hRa : aggOk 32 (.agg R) = true := by rw [eR]; exact aggOk_agg 32 _ (by simp [hr]) (bytes_all _)
  have ER := shut eR
  have HRR := shut hr
  have Q0 := blk_alloc (blk_new w R 25) (.cells #[.int .i64 ix, .int .i64 ct, .slice ap m c] 46)
  have P0 := blk_new (w.alloc (.cells R 25)) #[.int .i64 ix, .int .i64 ct, .slice ap m c] 46
  rw [World.size_alloc] at P0
  have K0 := ((Keeps.refl Nothing w).alloc (.cells R 25)).alloc (.cells #[.int .i64 ix, .int .i64 ct, .slice ap m c] 46)
  have b0 := blk_cell P0 0 rfl
  have b1 := blk_cell P0 1 rfl
  have b2 := blk_cell P0 2 rfl
  clear hck htwo hC eR hr hB hH P0 hRM
  go_enter Try.func31, Try.ntmps31
  go_wp2_with fail
  refine (hmade _ K0).mono ?_
  rintro e w1 ⟨a1, c1, v1, rfl, o1, k1⟩
  have Q1 := k1.blk Q0 (fun h => h)
  have K1 := K0.trans k1 (fun _ h _ => h)
  clear K0 k1 Q0 b0 b1 b2 hmade
  generalize w.heap.size = g3 at *
  rcases HTW.out with e9 | ⟨cc, tt, e9⟩
  · have HC0 : Shut (C = false) := shut (by rw [HCK.out, e9]; rfl)
    subst e9
    rw [show ((([] : List (List UInt8)), false) : List (List UInt8) × Bool).1.length = 0 from rfl, show ((([] : List (List UInt8)), false) : List (List UInt8) × Bool).2 = false from rfl]
    go_wp2_with fail
    go_quiet (fail)
    go_wp2_with fail
    go_ret
    exact ⟨by rw [HC0.out]; rfl, K1.drewN _⟩
  · have HC1 : Shut (C = (shaOf tt == root)) := shut (by rw [HCK.out, e9]; simp)
    subst e9
    obtain ⟨N, hN⟩ : ∃ N, cc.length = N := ⟨_, rfl⟩
    rw [show ((cc ++ [tt], true) : List (List UInt8) × Bool).1.length = N + 1 from by simp [hN], show ((cc ++ [tt], true) : List (List UInt8) × Bool).2 = true from rfl]
    have htt : (cc ++ [tt])[N]? = some tt := by rw [← hN]; simp
    obtain ⟨hc1, hc2⟩ := ownS_cap o1
    have hN9 : N + 1 ≤ 100003 := by
      have h9 : (cc ++ [tt]).length ≤ path.length + 2 := l1
      rw [List.length_append, List.length_singleton, hN] at h9
      omega
    have htl : tt.length ≤ 1065 := by have := l2 tt (by simp); omega
    obtain ⟨g4, rfl⟩ : ∃ g4, a1 = some ⟨g4, 0, none⟩ := by
      rcases ownS_head o1 with e4 | e4
      · have h9 := (ownS_rows o1).1 e4
        simp at h9
      · exact e4
    obtain ⟨_, ae, ce, hcell, hBy, _, _⟩ := (ownS_rows o1).2 _ rfl N tt htt
    rw [Addr.add_mid', Nat.zero_add] at hcell
    have hcl : w1.cell? (⟨g4, N, none⟩ : Addr) = some (.slice ae tt.length ce) := hcell
    obtain ⟨tl, htl2⟩ : ∃ tl, tt.length = tl := ⟨_, rfl⟩
    have hse := fun V (K : Keeps Nothing w1 V) => rsum_any (w := V) ce htl2 (hBy.keepsN K) (by omega)
    rw [htl2] at hcl
    obtain ⟨X, hX, hXv, hXs, hag⟩ := hash_agg tt
    rw [hXv] at hse
    have heq : ∀ W, (Op.equalIn 10000 25 (.agg X) (.agg R)).run Try.prog W = .ok C W := fun W => by
      rw [hX, ER.out, HC1.out]
      exact eql_hash_run (shaOf tt) root (sha_len tt) HRR.out W
    have ew : IntKind.i64.wrap (N : Int) = (N : Int) := by rw [IntKind.wrap_i64]; omega
    have e3 : (N : Int) < (N : Int) + 1 := by omega
    have e4 : (0 : Int) ≤ (N : Int) := by omega
    clear hX hXv hcell hBy htt o1 l1 l2 htl2 hN hc1
    go_wp2_with fail
    refine wp_region_mix (fun V => Keeps Nothing w1 V) [(true, 0), (true, 1), (true, 2), (true, 3), (true, 4), (true, 5), (true, 6), (true, 7), (true, 9), (false, 8), (true, 10), (true, 11), (true, 12)] (by kernel_rfl) (by kernel_rfl) (Keeps.refl _ _).drew ?_
    simp only [mixItems, List.map_cons, List.map_nil, List.getD_cons_zero, List.getD_cons_succ]
    repeat (refine wpMix_free (fun K hK => ?_); go_simp; refine hK _ ?_; clear hK K)
    refine wpMix_yield (v := .slice ae tl ce) (fun V hV => ?_) (fun K hK => ?_)
    · have y1 := hV.cell hcl (fun h => h)
      go_simp
    go_simp
    refine hK _ ?_
    clear hK K
    repeat (refine wpMix_free (fun K hK => ?_); go_simp; refine hK _ ?_; clear hK K)
    refine wpMix_yield (v := .agg R) (fun V hV => ?_) (fun K hK => ?_)
    · have y1 := hV.blk Q1 (fun h => h)
      have y2 := rowOk_blk (n := 32) y1 hRs
      have y3 := rowOf_blk y1
      go_simp
    go_simp
    refine hK _ ?_
    clear hK K
    refine wpMix_one (fun K hK => ?_)
    go_wp2_with fail
    refine (hse _ (Keeps.refl _ _).drew).mono ?_
    rintro e w2 ⟨rfl, k2⟩
    have kk2 : Keeps Nothing w1 w2 := ((Keeps.refl Nothing w1).drew).trans k2 (fun _ h _ => h)
    go_wp2_with fail
    refine hK _ _ kk2 ?_
    clear hK K
    repeat (refine wpMix_free (fun K hK => ?_); go_simp; refine hK _ ?_; clear hK K)
    refine wpMix_nil ?_
    go_wp2_with fail
    go_ret
    exact ⟨rfl, K1.trans kk2 (fun _ h _ => h)⟩

end Go.Proofs.Ytdmfomjgmmkaeaa

namespace Go.Proofs.Ytdmfomjgmmkaeaa
open Go.RowKit Go.ChangeShapes Go.WideShapes

section
variable {H : Type} {enc : TypeId × Value → H} {w W : World} {base : Nat} {spare : Nat → Bool} {held : Bool}

theorem cellsInt5 : Try.prog.cellsOf 3 = 1 := by kernel_rfl
theorem cellsHs5 : Try.prog.cellsOf 44 = 1 := by kernel_rfl
theorem cellsH5 : Try.prog.cellsOf 25 = 32 := by kernel_rfl

theorem open_hashes {fuel : Nat} {cs : List Value} {x : DataW H × List MemPlace} (h : DataW.trod enc Try.prog w base spare held fuel 44 cs = some x) :
    ∃ (ao : Option Addr) (len cap : Nat) (hs : List (List UInt8)), cs = [.slice ao len cap] ∧ hs.length = len ∧ HashesAt w ao hs ∧ len ≤ cap ∧ cap ≤ maxLen := by
  rcases Deep.open_slice Try.underlying44 h with ⟨hcs, _⟩ | ⟨a, len, cap, m, n, D, Pl, hcs, hb, hl, hm, hmm, hx, hel⟩
  · exact ⟨none, 0, 0, [], hcs, rfl, ⟨fun _ => rfl, fun a e => (by cases e)⟩, Nat.le_refl _, Nat.zero_le _⟩
  · have hlm : len ≤ m := by rw [hmm]; split <;> omega
    have hel' : ∀ i, i < m → ∃ cs', w.cells? base (a.add (i * 32)) 32 = some cs' ∧ DataW.trod enc Try.prog w base spare held n 25 cs' = some (D i, Pl i) := fun i hi => by
      obtain ⟨cs', hc, ht⟩ := hel i hi
      rw [cellsH5] at hc
      exact ⟨cs', hc, ht⟩
    have hspot : 0 < len → a.spot = none := by
      intro h0
      obtain ⟨cs', hc, ht⟩ := hel' 0 (by omega)
      obtain ⟨_, hlen, hcell⟩ := World.cells?_some hc
      obtain ⟨bs, hbl, rfl⟩ := trod_bytes Try.underlying25 Try.underlying5 cells8 cellsH5 ht
      have h1 : w.cell? ((a.add 0).add 0) = some (byteV (bs[0]'(by omega))) := (hcell 0 (by omega)).trans (by rw [List.getElem?_map, List.getElem?_eq_getElem (by omega)]; rfl)
      have hs0 := World.cell?_spot h1
      rw [Deep.add_add] at hs0
      unfold Addr.add at hs0
      simpa using hs0
    have hex : ∀ i, i < len → ∃ o : List UInt8, a.spot = none ∧ o.length = 32 ∧ w.rangeAt a.block (a.off + i * 32) (o.map byteV) := by
      intro i hi
      obtain ⟨cs', hc, ht⟩ := hel' i (by omega)
      obtain ⟨_, hlen, hcell⟩ := World.cells?_some hc
      obtain ⟨bs, hbl, rfl⟩ := trod_bytes Try.underlying25 Try.underlying5 cells8 cellsH5 ht
      have hsp := hspot (by omega)
      refine ⟨bs, hsp, hbl, fun j v hj => ?_⟩
      have hjl : j < 32 := by
        have := (List.getElem?_eq_some_iff.1 hj).1
        rw [List.length_map] at this; omega
      have := hcell j hjl
      rw [Deep.add_add, ad_add a hsp, hj, ← Nat.add_assoc] at this
      exact this
    have : Inhabited (List UInt8) := ⟨[]⟩
    obtain ⟨f, hf⟩ := Deep.choose_lt hex
    refine ⟨some a, len, cap, (List.range len).map f, hcs, by simp, ⟨fun e => (by cases e), fun a' e i o hi => ?_⟩, hl, hm⟩
    obtain rfl := Option.some.inj e
    rw [List.getElem?_map] at hi
    by_cases hlt : i < len
    · rw [List.getElem?_range hlt] at hi
      obtain rfl := Option.some.inj hi
      exact hf i hlt
    · rw [List.getElem?_eq_none (by simp; omega)] at hi
      cases hi

theorem open_proof {r : Reach} {b0 : Nat} {v : Value} {d : DataW H} {ps : List MemPlace} (hval : Value.okWide Try.prog W r b0 46 v) (h : DataW.Trod enc Try.prog w base spare held 46 v d ps) :
    ∃ (ix ct : Int) (ao : Option Addr) (len cap : Nat) (hs : List (List UInt8)), v = .agg #[.int .i64 ix, .int .i64 ct, .slice ao len cap] ∧ -9223372036854775808 ≤ ix ∧ ix < 9223372036854775808 ∧ -9223372036854775808 ≤ ct ∧ ct < 9223372036854775808 ∧ hs.length = len ∧ HashesAt w ao hs ∧ len ≤ cap ∧ cap ≤ maxLen := by
  obtain ⟨cs, rfl, hsz⟩ := okWide_struct Try.underlying46 hval
  obtain ⟨fuel, hf⟩ := h
  obtain ⟨y0, y1, y2, n, _, hl, t0, t1, t2⟩ := Deep.trod_struct3 Try.underlying46 hf
  have f0 : DataW.trod enc Try.prog w base spare held n 3 ((cs.toList.drop 0).take 1) = some y0 := (cellsInt5 ▸ t0 : _)
  have f1 : DataW.trod enc Try.prog w base spare held n 3 ((cs.toList.drop 1).take 1) = some y1 := (cellsInt5 ▸ t1 : _)
  have f2 : DataW.trod enc Try.prog w base spare held n 44 ((cs.toList.drop 2).take 1) = some y2 := (cellsHs5 ▸ t2 : _)
  obtain ⟨ix, e0, _, w0⟩ := DataW.trod_int Try.underlying3 f0
  obtain ⟨ct, e1, _, w1⟩ := DataW.trod_int Try.underlying3 f1
  obtain ⟨ao, len, cap, hs, e2, h1, h2, h3, h4⟩ := open_hashes f2
  have b0 := bounds_i64 w0
  have b1 := bounds_i64 w1
  have h5 := take1 e0
  rw [take1 e1, take1 e2, List.drop_zero] at h5
  have hsz3 : cs.size = 3 := by rw [hsz]; kernel_rfl
  rw [List.drop_eq_nil_of_le (by rw [Array.length_toList]; omega)] at h5
  refine ⟨ix, ct, ao, len, cap, hs, ?_, b0.1, by omega, b1.1, by omega, h1, h2, h3, h4⟩
  congr 1
  apply Array.ext'
  rw [h5]
end

end Go.Proofs.Ytdmfomjgmmkaeaa

namespace Go.Proofs.Ytdmfomjgmmkaeaa
open Go.RowKit

theorem blk_cell_eq {w : World} {g : Nat} {cs : Array Value} {t : TypeId} (h : Blk w g cs t) (i : Nat) : w.cell? ⟨g, i, none⟩ = cs[i]? := by
  simp only [World.cell?, h]
  rfl
theorem ownH_blk {w : World} {g cap : Nat} {hs : List (List UInt8)} (h : OwnH w (some ⟨g, 0, none⟩) cap hs) : ∃ cur, Blk w g cur 25 := by
  rcases h.2 with ⟨hv, _⟩ | ⟨g', cap', cur, hv, _, hg, _⟩
  · simp at hv
  · simp only [Value.slice.injEq, Option.some.injEq] at hv
    obtain ⟨h1, _⟩ := hv
    have : g = g' := by injection h1
    subst this
    exact ⟨cur, hg⟩
theorem ownH_head {w : World} {ao : Option Addr} {cap : Nat} {hs : List (List UInt8)} (h : OwnH w ao cap hs) (h1 : 1 ≤ hs.length) : ∃ g, ao = some ⟨g, 0, none⟩ := by
  rcases h.2 with ⟨_, hn⟩ | ⟨g', cap', cur, hv, _⟩
  · omega
  · simp only [Value.slice.injEq] at hv; exact ⟨g', hv.1⟩
theorem hashes_byte {w : World} {g cap : Nat} {hs : List (List UInt8)} (o : OwnH w (some ⟨g, 0, none⟩) cap hs) (h32 : ∀ x ∈ hs, x.length = 32) {t : Nat} {x : List UInt8} (hx : hs[t]? = some x) :
    ∃ (cur : Array Value) (c : UInt8), Blk w g cur 25 ∧ cur[t * 32 + 5]? = some (byteV c) ∧ ∀ c' : UInt8, HashesAt (w.setCell ⟨g, t * 32 + 5, none⟩ (byteV c')) (some ⟨g, 0, none⟩) (hs.set t (x.set 5 c')) := by
  obtain ⟨cur, hB⟩ := ownH_blk o
  have hA := ownH_at o h32
  have hcell : ∀ (j : Nat) (y : List UInt8), hs[j]? = some y → ∀ (u : Nat) (v : Value), (y.map byteV)[u]? = some v → cur[j * 32 + u]? = some v := fun j y hy u v hv => by
    obtain ⟨_, _, h3⟩ := hA.2 _ rfl j y hy
    have h4 := h3 u v hv
    rw [blk_cell_eq hB, Nat.zero_add] at h4
    exact h4
  have hx32 := h32 x (List.mem_of_getElem? hx)
  have h5 := hcell t x hx 5 (byteV (x[5]'(by omega))) (by rw [List.getElem?_map, List.getElem?_eq_getElem (by omega)]; rfl)
  refine ⟨cur, x[5]'(by omega), hB, h5, fun c' => ⟨fun e => (by cases e), fun a e j y hy => ?_⟩⟩
  obtain rfl := Option.some.inj e
  have hlt : t * 32 + 5 < cur.size := (Array.getElem?_eq_some_iff.1 h5).1
  have hB' := blk_set hB (t * 32 + 5) (byteV c')
  have htl : t < hs.length := (List.getElem?_eq_some_iff.1 hx).1
  rw [List.getElem?_set] at hy
  by_cases hjt : t = j
  · subst hjt
    rw [if_pos rfl, if_pos htl] at hy
    obtain rfl := Option.some.inj hy
    refine ⟨rfl, by rw [List.length_set]; exact hx32, fun u v hv => ?_⟩
    show World.cell? _ ⟨g, 0 + t * 32 + u, none⟩ = some v
    rw [blk_cell_eq hB', Nat.zero_add, Array.getElem?_setIfInBounds]
    rw [List.getElem?_map, List.getElem?_set] at hv
    by_cases hu : 5 = u
    · subst hu
      rw [if_pos rfl, if_pos hlt]
      rw [if_pos rfl, if_pos (by omega)] at hv
      exact hv
    · rw [if_neg (by omega)]
      rw [if_neg hu] at hv
      exact hcell t x hx u v (by rw [List.getElem?_map]; exact hv)
  · rw [if_neg hjt] at hy
    refine ⟨rfl, h32 y (List.mem_of_getElem? hy), fun u v hv => ?_⟩
    have hul : u < 32 := by
      have := (List.getElem?_eq_some_iff.1 hv).1
      rw [List.length_map, h32 y (List.mem_of_getElem? hy)] at this
      exact this
    show World.cell? _ ⟨g, 0 + j * 32 + u, none⟩ = some v
    rw [blk_cell_eq hB', Nat.zero_add, Array.getElem?_setIfInBounds, if_neg (by omega)]
    exact hcell j y hy u v hv

/-- What a turned proof is like. -/
def QSt (w6 : World) (gq : Nat) (wx : World) : Prop :=
  ∃ (qi qc : Int) (aq : Option Addr) (mq cq : Nat) (pq : List (List UInt8)), Blk wx gq #[.int .i64 qi, .int .i64 qc, .slice aq mq cq] 46 ∧ -9223372036854775808 ≤ qi ∧ qc < 9223372036854775808 ∧ pq.length = mq ∧ HashesAt wx aq pq ∧ mq ≤ cq ∧ cq ≤ maxLen ∧ mq ≤ 100 ∧ Keeps Nothing w6 wx

end Go.Proofs.Ytdmfomjgmmkaeaa
