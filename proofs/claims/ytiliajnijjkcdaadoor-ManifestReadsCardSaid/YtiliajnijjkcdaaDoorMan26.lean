/- The document's answer: Parse. -/
import Derived.Test.YtiliajnijjkcdaaDoorManB
import Derived.Test.YtiliajnijjkcdaaDoorMan20
namespace Go.Proofs.YtiliajnijjkcdaaDoor
open Go.RowKit

attribute [local irreducible] wpMix wpList
attribute [local go_sem ↓] exec_mid_src exec_store_src
attribute [local go_sem] rowOk_new World.setRow_alloc_new aggOk_src

theorem flat_set {k : Nat} {u : Value} {t : Nat} (ht : t < k) : ∀ {L : List (List Value)}, (∀ x ∈ L, x.length = k) → ∀ {j : Nat} {x : List Value}, L[j]? = some x → L.flatten.set (j * k + t) u = (L.set j (x.set t u)).flatten
  | [], _, j, x, h => by simp at h
  | y :: l, hall, j, x, hj => by
    have hy := hall y (by simp)
    cases j with
    | zero =>
      obtain rfl : y = x := by simpa using hj
      rw [List.flatten_cons, Nat.zero_mul, Nat.zero_add, List.set_append_left _ _ (by omega), List.set_cons_zero, List.flatten_cons]
    | succ j =>
      have := flat_set (u := u) ht (L := l) (fun z hz => hall z (List.mem_cons_of_mem _ hz)) (j := j) (x := x) (by simpa using hj)
      rw [List.flatten_cons, List.set_append_right _ _ (by rw [hy, Nat.succ_mul]; omega), hy, show (j + 1) * k + t - k = j * k + t by rw [Nat.succ_mul]; omega, this, List.set_cons_succ, List.flatten_cons]
theorem OwnC.set {w : World} {e : TypeId} {k g : Nat} {cap : Nat} {L : List (List Value)} (h : OwnC w e k (some ⟨g, 0, none⟩) cap L) (hall : ∀ x ∈ L, x.length = k) {j : Nat} {x : List Value} (hj : L[j]? = some x) {t : Nat} (ht : t < k) (u : Value) : OwnC (w.setCell ⟨g, j * k + t, none⟩ u) e k (some ⟨g, 0, none⟩) cap (L.set j (x.set t u)) := by
  obtain ⟨h1, h2⟩ := h
  refine ⟨?_, ?_⟩
  · rw [← flat_set ht hall hj, List.length_set, h1, List.length_set]
  · rcases h2 with ⟨hv, _⟩ | ⟨g', cap', cur, hv, hb, hg, hn, hm, hs, hc⟩
    · simp at hv
    · simp only [Value.slice.injEq, Option.some.injEq, Addr.mk.injEq] at hv
      obtain ⟨⟨rfl, _⟩, _, rfl⟩ := hv
      refine .inr ⟨g, cap, _, by rw [List.length_set], hb, blk_set hg (j * k + t) u, by rw [List.length_set]; exact hn, hm, by rw [Array.size_setIfInBounds]; exact hs, ?_⟩
      rw [List.length_set, Array.toList_setIfInBounds, List.take_set, hc]
      exact flat_set ht hall hj
theorem RowR.srcS {w : World} {e tx e' : TypeId} {ao : Option Addr} {cap n : Nat} {vs : List Value} (h : RowR w e ao cap vs) (hk : Tryd.prog.underlying tx = some (.slice e')) (hn : vs.length = n) (c : Nat) : Src Tryd.prog 1 tx (.slice ao n c) n vs w := by
  subst hn
  rcases h.shape with rfl | ⟨g, o, rfl⟩
  · rcases h.at' with ⟨_, rfl, _⟩ | ⟨g, o, cur, hv, _⟩
    · exact Src.ofNil _ hk c
    · cases hv
  · exact Src.ofSlice _ hk ⟨g, o, none⟩ vs.length c vs (by rw [Nat.mul_one]) (fun t u hu => by rw [ad_mid]; exact h.cell hu) h.one
theorem rowR_here {w : World} {g : Nat} {e : TypeId} (h : Blk w g #[] e) : RowR w e (some ⟨g, 0, none⟩) 0 [] :=
  ⟨Nat.le_refl _, Nat.zero_le _, fun _ h => (by cases h), .inr ⟨g, 0, #[], rfl, h, Nat.zero_le _, fun j v hj => by simp at hj⟩⟩

/-- The document's crates while they are read. -/
structure RP (N : Nat) (w : World) (ao : Option Addr) (cap : Nat) (out : List SrcD) : Prop where
  row : ∃ L : List (List Value), OwnC w 43 3 ao cap L ∧ L.length = out.length ∧ ∀ (j : Nat) (d : SrcD), out[j]? = some d → ∃ cs, L[j]? = some cs ∧ SrcIs (strB w) w d cs
  new : ∀ g, blockOf ao = some g → N ≤ g
theorem rp_nil (N : Nat) (w : World) : RP N w none 0 [] := ⟨⟨[], ownC_nil _ _ _, rfl, fun j d hd => by simp at hd⟩, fun g hg => by cases hg⟩
theorem rp_all {w : World} {L : List (List Value)} {out : List SrcD} (hl : L.length = out.length) (he : ∀ (j : Nat) (d : SrcD), out[j]? = some d → ∃ cs, L[j]? = some cs ∧ SrcIs (strB w) w d cs) : ∀ x ∈ L, x.length = 3 := fun x hx => by
  obtain ⟨i, hi⟩ := List.mem_iff_getElem?.1 hx
  have hlt := (List.getElem?_eq_some_iff.1 hi).1
  obtain ⟨cs', f1, f2⟩ := he i _ (List.getElem?_eq_getElem (by omega))
  rw [hi] at f1
  obtain rfl := Option.some.inj f1
  exact f2.len
theorem RP.keepsN {N : Nat} {w w' : World} {ao : Option Addr} {cap : Nat} {out : List SrcD} (h : RP N w ao cap out) (K : Keeps Nothing w w') : RP N w' ao cap out := by
  obtain ⟨L, o, hl, he⟩ := h.row
  refine ⟨⟨L, o.keepsN K, hl, fun j d hd => ?_⟩, h.new⟩
  obtain ⟨cs, e1, e2⟩ := he j d hd
  exact ⟨cs, e1, e2.keeps K (fun _ _ h => h) (strB_keeps K (fun _ _ h => h))⟩
theorem RP.sl {N : Nat} {w : World} {ao : Option Addr} {cap : Nat} {out : List SrcD} (h : RP N w ao cap out) (hb : out.length ≤ bigN) : SlIs (fun _ => True) w 3 (SrcIs (fun _ => True) w) ao out := by
  obtain ⟨L, o, hl, he⟩ := h.row
  refine ownC_sl o (rp_all hl he) hl hb fun j d hd => ?_
  obtain ⟨cs, e1, e2⟩ := he j d hd
  exact ⟨cs, e1, e2.keeps (Keeps.refl Nothing w) (fun _ _ h => h) (fun _ _ => trivial)⟩
theorem RP.head {N : Nat} {w : World} {ao : Option Addr} {cap : Nat} {out : List SrcD} (h : RP N w ao cap out) (hne : out ≠ []) : ∃ g, ao = some ⟨g, 0, none⟩ := by
  obtain ⟨L, o, hl, _⟩ := h.row
  exact o.head (fun q => hne (List.eq_nil_of_length_eq_zero (by rw [← hl, q]; rfl)))
theorem RP.blk {N : Nat} {w : World} {g : Nat} {cap : Nat} {out : List SrcD} (h : RP N w (some ⟨g, 0, none⟩) cap out) : ∃ cur : Array Value, Blk w g cur 43 := by
  obtain ⟨L, o, hl, _⟩ := h.row
  exact o.blk
/-- A crate's name and text. -/
theorem RP.cells {N : Nat} {w : World} {g : Nat} {cap : Nat} {out : List SrcD} (h : RP N w (some ⟨g, 0, none⟩) cap out) {j : Nat} {d : SrcD} (hd : out[j]? = some d) : w.cell? ⟨g, j * 3, none⟩ = some (.string ⟨d.name.toArray⟩) ∧ w.cell? ⟨g, j * 3 + 2, none⟩ = some (.string ⟨d.text.toArray⟩) := by
  obtain ⟨L, o, hl, he⟩ := h.row
  obtain ⟨cs, e1, a, c, rfl, _⟩ := he j d hd
  have hr := o.range (rp_all hl he) e1
  exact ⟨by have := hr 0 _ rfl; simpa [txV] using this, hr 2 _ rfl⟩
/-- The last text grows. -/
theorem RP.text {N : Nat} {w : World} {g : Nat} {cap : Nat} {o : List SrcD} {d : SrcD} (h : RP N w (some ⟨g, 0, none⟩) cap (o ++ [d])) {t : List UInt8} (ht : (d.text ++ t).length ≤ bigN) : RP N (w.setCell ⟨g, o.length * 3 + 2, none⟩ (.string ⟨(d.text ++ t).toArray⟩)) (some ⟨g, 0, none⟩) cap (o ++ [⟨d.name, d.deps, d.text ++ t⟩]) := by
  obtain ⟨cur, hcur⟩ := h.blk
  obtain ⟨L, ow, hl, he⟩ := h.row
  have hall := rp_all hl he
  have hd : (o ++ [d])[o.length]? = some d := List.getElem?_concat_length ..
  obtain ⟨cs, e1, e2⟩ := he _ _ hd
  have K : Keeps (fun b => b = g) w (w.setCell ⟨g, o.length * 3 + 2, none⟩ (.string ⟨(d.text ++ t).toArray⟩)) := (Keeps.refl (fun b => b = g) w).setCell (p := ⟨g, o.length * 3 + 2, none⟩) (fun _ => rfl) _
  have hs : ∀ b, strB w b → ¬ b = g := fun b ⟨cs, hb⟩ q => by subst q; exact absurd (blk_unlike hb hcur) (by decide)
  have hst := strB_keeps K hs
  refine ⟨⟨_, ow.set hall e1 (t := 2) (by omega) _, by rw [List.length_set, hl]; simp, fun j x hx => ?_⟩, h.new⟩
  have hjl : j < o.length + 1 := by
    have := (List.getElem?_eq_some_iff.1 hx).1
    simpa using this
  by_cases hj : j < o.length
  · rw [List.getElem?_append_left hj] at hx
    obtain ⟨cs', f1, f2⟩ := he j x (by rw [List.getElem?_append_left hj]; exact hx)
    exact ⟨cs', by rw [List.getElem?_set_ne (by omega)]; exact f1, f2.keeps K hs hst⟩
  · obtain rfl : j = o.length := by omega
    rw [List.getElem?_concat_length] at hx
    obtain rfl := Option.some.inj hx
    obtain ⟨a, c, rfl, g0, g1, g2, g3⟩ := e2
    refine ⟨_, by rw [List.getElem?_set_self (by rw [hl]; simp)]; rfl, a, c, rfl, g0, ht, g2, g3.keeps K hs hst (fun _ _ _ h => h)⟩
/-- A crate more. -/
theorem RP.push {N : Nat} {w w' : World} {ao ao' : Option Addr} {cap cap' : Nat} {out : List SrcD} {L : List (List Value)} (he : ∀ (j : Nat) (d : SrcD), out[j]? = some d → ∃ cs, L[j]? = some cs ∧ SrcIs (strB w) w d cs) (hl : L.length = out.length) (ow : OwnC w 43 3 ao cap L) (hn : ∀ g, blockOf ao = some g → N ≤ g) (hN : N ≤ w.heap.size)
    {l : List Value} {d : SrcD} (hel : SrcIs (strB w) w d l) (O2 : OwnC w' 43 3 ao' cap' (L ++ [l])) (K : Keeps (fun k => blockOf ao = some k) w w') (mv : Moved w.heap.size ao ao') : RP N w' ao' cap' (out ++ [d]) := by
  have hs : ∀ b, strB w b → ¬ blockOf ao = some b := fun b ⟨cs, hb⟩ q => ow.ne hb (by decide) q
  have hst := strB_keeps K hs
  refine ⟨⟨_, O2, by simp [hl], fun j x hx => ?_⟩, fun g hg => moved_ge mv hn hN hg⟩
  by_cases hj : j < out.length
  · rw [List.getElem?_append_left hj] at hx
    obtain ⟨cs, e1, e2⟩ := he j x hx
    exact ⟨cs, by rw [List.getElem?_append_left (by rw [hl]; exact hj)]; exact e1, e2.keeps K hs hst⟩
  · have hj2 : j = out.length := by
      have := (List.getElem?_eq_some_iff.1 hx).1
      simp at this
      omega
    subst hj2
    rw [List.getElem?_concat_length] at hx
    obtain rfl := Option.some.inj hx
    exact ⟨l, by rw [← hl, List.getElem?_concat_length], hel.keeps K hs hst⟩

/-! ### plain -/
theorem head_two (l : List UInt8) : isHead l = true ↔ 2 ≤ l.length ∧ l.take 2 = [61, 61] := by
  match l with
  | [] => unfold isHead Lib.hasPrefix; simp [List.isPrefixOf]
  | [a] => unfold isHead Lib.hasPrefix; simp [List.isPrefixOf]
  | x :: y :: r =>
    unfold isHead Lib.hasPrefix
    simp [List.isPrefixOf]
    exact ⟨fun ⟨a, b⟩ => ⟨a.symm, b.symm⟩, fun ⟨a, b⟩ => ⟨a.symm, b.symm⟩⟩
theorem head_bare (s : List UInt8) : isHead s = true ↔ 2 ≤ (bareL s).length ∧ (bareL s).take 2 = [61, 61] := by
  rcases line_cases s with h | ⟨l, r, h, rfl⟩
  · rw [bareL_all h]; exact head_two s
  · rw [bareL_app r h, isHead_app]; exact head_two l
theorem str_twoS (s : List UInt8) (h : 2 ≤ s.length) (W : World) : (Instr.slice 9 (.string ⟨s.toArray⟩) none (some (.int .i64 2)) none).run Tryd.prog W = .ok (.string ⟨(s.take 2).toArray⟩) W := by
  rw [run_slice_string_h W 9 ⟨s.toArray⟩ Tryd.underlying9 .i64 2 (by decide) (by show (2 : Int) ≤ s.length; omega)]
  have := extract_eq s 0 2
  simpa using this
theorem step_bad {s sp : List UInt8} {p : Nat} {out : List SrcD} {c : Int} (hne : sp ≠ []) (hR : parseR 0 s [] = parseR p sp out) (h : (stepM out sp).1 = c) (hc : c ≠ 0) : parseE (parseR 0 s []) = (c, p, []) := by
  rw [hR, parse_step hne, if_neg (by rw [h]; exact hc), h]
  show (if c = 0 ∧ _ then (40, 0, []) else (c, p, ([] : List SrcD))) = _
  rw [if_neg (fun q => hc q.1)]
theorem step_on {s : List UInt8} {p : Nat} {out out' : List SrcD} (hne : s.drop p ≠ []) (hR : parseR 0 s [] = parseR p (s.drop p) out) (h : stepM out (s.drop p) = (0, out')) : parseR 0 s [] = parseR (p + lineN (s.drop p)) (s.drop (p + lineN (s.drop p))) out' := by
  rw [hR, parse_step hne, h, if_pos rfl, List.drop_drop]
/-- What the document's Parse leaves. -/
def RParsePost (w : World) (r : Int × Nat × List SrcD) (e : Ending) (w' : World) : Prop :=
  Keeps Nothing w w' ∧ ((r.1 = 0 ∧ r.2.1 = 0 ∧ ∃ ao cap, e = .returned (.tuple #[.slice ao r.2.2.length cap, .int .i64 0, .int .i64 0]) ∧ SlIs (fun _ => True) w' 3 (SrcIs (fun _ => True) w') ao r.2.2) ∨
    (r.1 ≠ 0 ∧ e = .returned (.tuple #[.slice none 0 0, .int .i64 r.1, .int .i64 (r.2.1 : Int)])))
theorem nodup_upto {l : List (List UInt8)} {i : Nat} {x : List UInt8} (hi : l[i]? = some x) (h : (l.take i).Nodup) (hx : x ∉ l.take i) : (l.take (i + 1)).Nodup := by
  rw [List.take_add_one, hi]
  rw [List.nodup_append]
  exact ⟨h, by simp, fun a ha b hb q => by simp at hb; subst hb; subst q; exact hx ha⟩

set_option maxRecDepth 100000 in
set_option linter.unusedSimpArgs false in
set_option maxHeartbeats 16000000 in
theorem rparse_any (w : World) (s : List UInt8) (hs : s.length < 9223372036854775808) : Calls Tryd.prog 11 #[.string ⟨s.toArray⟩] w (RParsePost w (parseL s)) := by
  have hsz : (ByteArray.mk s.toArray).size = s.length := rfl
  obtain ⟨n, hn⟩ : ∃ n, s.length = n := ⟨_, rfl⟩
  by_cases hbig : 4194304 < s.length
  · have hr : parseL s = (5, 0, []) := by unfold parseL; rw [if_pos hbig]
    rw [hr]
    have m1 : (4194304 : Int) < n := by omega
    rw [hn] at hsz
    clear hs hbig hr hn
    go_enter Tryd.func11, Tryd.ntmps11
    go_wp2_with fail
    go_ret3
    exact ⟨Keeps.refl _ _, .inr ⟨by decide, rfl⟩⟩
  have m1 : ¬ (4194304 : Int) < n := by omega
  have hr : parseL s = parseE (parseR 0 s []) := by unfold parseL; rw [if_neg hbig]
  rw [hr]
  obtain ⟨RR, hRR⟩ : ∃ RR, parseE (parseR 0 s []) = RR := ⟨_, rfl⟩
  rw [hRR]
  have HR := shut hRR
  have HN := shut hn
  rw [hn] at hsz
  have hn7 : n ≤ 4194304 := by omega
  clear hs hbig hr hRR hn
  have H0 : Shut (RP w.heap.size w none 0 [] ∧ Bnd [] 0 ∧ parseR 0 s [] = parseR 0 (s.drop 0) []) := shut ⟨rp_nil _ _, ⟨Nat.zero_le _, fun d hd => by cases hd⟩, by rw [List.drop_zero]⟩
  go_enter Tryd.func11, Tryd.ntmps11
  go_wp2_with fail
  go_loopw [5, 6] (fun s5 s6 wx => ∃ (p k : Nat) (ao : Option Addr) (cap : Nat) (out : List SrcD), s6 = .int .i64 p ∧ s5 = .slice ao k cap ∧ p ≤ n ∧ k ≤ 64 ∧ Keeps (fun b => w.heap.size ≤ b) w wx ∧ Shut (out.length = k) ∧ Shut (RP w.heap.size wx ao cap out ∧ Bnd out p ∧ parseR 0 s [] = parseR p (s.drop p) out)) (fun _ s6 _ => n - (intOf s6).toNat)
  case atStart => exact ⟨0, 0, none, 0, [], rfl, rfl, Nat.zero_le _, Nat.zero_le _, Keeps.refl _ _, shut rfl, H0⟩
  case round =>
    obtain ⟨p, k, ao, cap, out, rfl, rfl, hp, hk64, K, HK, HP⟩ := hrel
    clear H0
    by_cases hlt : p < n
    rotate_left
    · obtain rfl : p = n := by omega
      have q1 : ¬ (p : Int) < p := by omega
      have hrr : RR = parseE (0, 0, out) := by rw [← HR.out, HP.out.2.2, ← HN.out, List.drop_length, parse_nil]
      have KF := shut (keepsHi K)
      by_cases hk0 : k = 0
      · have hz : RR = (40, 0, []) := by
          rw [hrr, List.eq_nil_of_length_eq_zero (by rw [HK.out]; exact hk0 : out.length = 0)]
          rfl
        subst hk0
        have HZ := shut hz
        clear hrr hz HP HR K
        go_wp2_with fail
        go_ret3
        rw [HZ.out]
        exact ⟨KF.out, .inr ⟨by decide, rfl⟩⟩
      · have hk1 : ((k : Int) == 0) = false := by rw [beq_eq_false_iff_ne]; omega
        have hk2 : ¬ (k : Int) = 0 := by omega
        have hz : RR = (0, 0, out) := by
          rw [hrr]
          show (if (0 : Int) = 0 ∧ out.isEmpty = true then (40, 0, []) else ((0 : Int), 0, out)) = (0, 0, out)
          rw [if_neg]
          rintro ⟨_, q⟩
          have := List.isEmpty_iff.1 q
          have h2 := HK.out
          rw [this] at h2
          exact hk0 h2.symm
        have HZ := shut hz
        have HSL := shut (HP.out.1.sl (by rw [HK.out]; unfold bigN; omega))
        clear hrr hz HP HR K
        go_wp2_with fail
        go_ret3
        rw [HZ.out]
        exact ⟨KF.out, .inl ⟨rfl, rfl, ao, cap, by rw [HK.out]; rfl, HSL.out⟩⟩
    have q1 : (p : Int) < n := by omega
    have q0 : (0 : Int) ≤ p := by omega
    have hspne : s.drop p ≠ [] := by intro q; have := congrArg List.length q; rw [List.length_drop, HN.out] at this; simp at this; omega
    have hlp := line_pos hspne
    have hble := bare_le (s.drop p)
    have hlle := line_le (s.drop p)
    have hbl := bare_line (s.drop p)
    rw [List.length_drop, HN.out] at hble hlle
    obtain ⟨e, he⟩ : ∃ e, p + bareN (s.drop p) = e := ⟨_, rfl⟩
    obtain ⟨q, hq⟩ : ∃ q, p + lineN (s.drop p) = q := ⟨_, rfl⟩
    have hmn : min ((e : Int) + 1) (n : Int) = (q : Int) := by
      rcases hbl with ⟨h1, h2⟩ | ⟨h1, h2⟩
      · rw [List.length_drop, HN.out] at h1 h2; omega
      · have := (List.getElem?_eq_some_iff.1 h1).1
        rw [List.length_drop, HN.out] at this
        omega
    have hend : e = n ∨ s[e]? = some 10 := by
      rcases hbl with ⟨h1, h2⟩ | ⟨h1, h2⟩
      · rw [List.length_drop, HN.out] at h1; exact .inl (by omega)
      · rw [List.getElem?_drop, he] at h1; exact .inr h1
    have hin : ∀ i, p ≤ i → i < e → ∃ c, s[i]? = some c ∧ c ≠ 10 := fun i h1 h2 => by
      refine ⟨_, List.getElem?_eq_getElem (by rw [HN.out]; omega), ?_⟩
      refine bare_none (s.drop p) (i - p) _ (by omega) ?_
      rw [List.getElem?_drop, show p + (i - p) = i by omega]
      exact List.getElem?_eq_getElem _
    have hcut : ∀ W, (Instr.slice 9 (.string ⟨s.toArray⟩) (some (.int .i64 (p : Int))) (some (.int .i64 (e : Int))) none).run Tryd.prog W = .ok (.string ⟨(bareL (s.drop p)).toArray⟩) W := fun W => str_cut s he (by rw [HN.out]; omega) W
    have hcut2 : ∀ W, (Instr.slice 9 (.string ⟨s.toArray⟩) (some (.int .i64 (p : Int))) (some (.int .i64 (q : Int))) none).run Tryd.prog W = .ok (.string ⟨((s.drop p).take (lineN (s.drop p))).toArray⟩) W := fun W => str_cut s hq (by rw [HN.out]; omega) W
    have hen : e ≤ n := by omega
    have hpe : p ≤ e := by omega
    have hqn : q ≤ n := by omega
    have hpq : p < q := by omega
    have HE := shut hend
    have HIN := shut hin
    have HCUT := shut hcut
    have HCUT2 := shut hcut2
    have HMN := shut hmn
    have HQ := shut hq
    have HBE := shut he
    have HNE := shut hspne
    clear hbl hble hlle hlp hend hin hcut hcut2 hmn hq he hspne
    obtain ⟨wa, rfl⟩ : ∃ wa, wa = wr := ⟨_, rfl⟩
    go_wp2_with fail
    go_loopw [7] (fun s7 wx => ∃ i : Nat, s7 = .int .i64 i ∧ p ≤ i ∧ i ≤ e ∧ wx = wa) (fun s7 _ => e - (intOf s7).toNat)
    case atStart => exact ⟨p, rfl, Nat.le_refl _, hpe, rfl⟩
    case round =>
      obtain ⟨i, rfl, hpi, hie, rfl⟩ := hrel
      by_cases hlt2 : i < e
      · obtain ⟨c, hc, hc10⟩ := HIN.out i hpi hlt2
        have hix := fun kk W => str_at s hc kk W
        have hin2 : (i : Int) < n := by omega
        have hcb : ((c.toNat : Int) == 10) = false := by rw [beq_eq_false_iff_ne]; intro q; exact hc10 (UInt8.toNat_inj.1 (by show c.toNat = 10; omega))
        have hcn : ¬ (c.toNat : Int) = 10 := by intro q; exact hc10 (UInt8.toNat_inj.1 (by show c.toNat = 10; omega))
        clear hc hc10
        go_wp2_with fail
        go_roundw
        case rel => exact ⟨i + 1, by go_num, by omega, by omega, by first | rfl | trivial⟩
        case measure => (simp [intOf]; try omega)
      obtain rfl : i = e := by omega
      have hcut := HCUT.out
      have hmn := HMN.out
      obtain ⟨line, hline⟩ : ∃ line, bareL (s.drop p) = line := ⟨_, rfl⟩
      rw [hline] at hcut
      have HLN := shut hline
      have hlsz : (ByteArray.mk line.toArray).size = line.length := rfl
      have hll : line.length ≤ 4194304 := by
        have h1 : (bareL (s.drop p)).length ≤ s.length := by
          unfold bareL
          rw [List.length_take, List.length_drop]
          omega
        rw [hline, HN.out] at h1
        omega
      clear hline
      rcases HE.out with hin0 | h10
      · have hin3 : ¬ (i : Int) < n := by omega
        clear hin0
        by_cases hl2 : line.length < 2
        · have hl2i : (line.length : Int) < 2 := by omega
          have HNH : Shut (¬ isHead (s.drop p) = true) := shut (fun h => by have := (head_bare _).1 h; rw [HLN.out] at this; omega)
          by_cases hk0 : k = 0
          · have hout : out = [] := List.eq_nil_of_length_eq_zero (by rw [HK.out]; exact hk0)
            subst hout
            subst hk0
            by_cases hl0 : line = []
            · subst hl0
              have hb0 : bareN (s.drop p) = 0 := by
                have h1 := congrArg List.length HLN.out
                unfold bareL at h1
                rw [List.length_take, List.length_nil] at h1
                have h2 := bare_le (s.drop p)
                omega
              have hst : stepM [] (s.drop p) = (0, []) := by
                unfold stepM
                rw [if_neg HNH.out, if_pos (by rfl), if_pos hb0]
              have hB : Bnd [] q := ⟨Nat.zero_le _, fun d hd => by cases hd⟩
              have HP2 : Shut (RP w.heap.size wr ao cap [] ∧ Bnd [] q ∧ parseR 0 s [] = parseR q (s.drop q) []) := shut ⟨HP.out.1, hB, by have := step_on HNE.out HP.out.2.2 hst; rwa [HQ.out] at this⟩
              have hle : (([] : List UInt8) == []) = true := rfl
              clear hb0 hst hB HP
              go_wp2_with fail
              go_roundw
              case rel => exact ⟨q, 0, ao, cap, [], by go_num, rfl, by omega, by omega, K, HK, HP2⟩
              case measure => (simp [intOf]; try omega)

            · have hle : (line == []) = false := by rw [beq_eq_false_iff_ne]; exact hl0
              have hb0 : bareN (s.drop p) ≠ 0 := by
                intro h1
                apply hl0
                rw [← HLN.out]
                unfold bareL
                rw [h1]
                rfl
              have hz : RR = (40, p, []) := by
                rw [← HR.out]
                exact step_bad HNE.out HP.out.2.2 (by unfold stepM; rw [if_neg HNH.out, if_pos (by rfl), if_neg hb0]) (by decide)
              clear hb0 hl0
              have HZ := shut hz
              have KF := shut (keepsHi K)
              clear hz HP HR K
              go_wp2_with fail
              go_ret3
              rw [HZ.out]
              exact ⟨KF.out, .inr ⟨by show ¬ (40 : Int) = 0; decide, rfl⟩⟩

          · have hk1 : ((k : Int) == 0) = false := by rw [beq_eq_false_iff_ne]; omega
            have hk2 : ¬ (k : Int) = 0 := by omega
            have hone : out ≠ [] := fun q => hk0 (by rw [← HK.out, q]; rfl)
            obtain ⟨oo, d, rfl⟩ : ∃ r x, out = r ++ [x] := ⟨out.dropLast, out.getLast hone, (List.dropLast_concat_getLast hone).symm⟩
            obtain ⟨go, rfl⟩ := HP.out.1.head hone
            have hko : k = oo.length + 1 := by rw [← HK.out]; simp
            obtain ⟨ko, hko2⟩ : ∃ ko, oo.length = ko := ⟨_, rfl⟩
            have hcut2 := HCUT2.out
            have hst : stepM (oo ++ [d]) (s.drop p) = (0, oo ++ [⟨d.name, d.deps, d.text ++ (s.drop p).take (lineN (s.drop p))⟩]) := by
              unfold stepM
              rw [if_neg HNH.out, if_neg (by simp), addText_app]
            have hB := bnd_step HP.out.2.1 (by rw [hst])
            rw [hst, HQ.out] at hB
            have hPR := step_on HNE.out HP.out.2.2 hst
            rw [HQ.out] at hPR
            have htl : (d.text ++ (s.drop p).take (lineN (s.drop p))).length ≤ bigN := by
              have := hB.2 _ (List.mem_append_right oo (List.mem_singleton_self _))
              unfold bigN
              simp only at this
              omega
            have hrp := (HP.out.1.text htl).keepsN (Keeps.refl Nothing _).drew
            obtain ⟨-, ct⟩ := HP.out.1.cells (j := oo.length) (d := d) (List.getElem?_concat_length ..)
            obtain ⟨cur, hcur⟩ := HP.out.1.blk
            have HBL := shut hcur
            rw [hko2] at hko hrp ct
            generalize (s.drop p).take (lineN (s.drop p)) = ln at *
            have hA : (⟨d.text.toArray⟩ : ByteArray) ++ ⟨ln.toArray⟩ = ⟨(d.text ++ ln).toArray⟩ := by apply ByteArray.ext; simp
            have hmx : d.text.length + ln.length ≤ 100000000 := by rw [List.length_append] at htl; exact htl
            have hsd : (ByteArray.mk d.text.toArray).size = d.text.length := rfl
            have hsl : (ByteArray.mk ln.toArray).size = ln.length := rfl
            have hmx2 : ¬ 9223372036854775807 < d.text.length + ln.length := by omega
            have HNEW := shut (HP.out.1.new go rfl)
            have kdr : Keeps Nothing wr wr.drew := (Keeps.refl Nothing wr).drew
            have ctd := kdr.cell ct (fun h => h)
            have kst : Keeps (fun b => b = go) wr (wr.setCell ⟨go, ko * 3 + 2, none⟩ (.string ⟨(d.text ++ ln).toArray⟩)) := (Keeps.refl (fun b => b = go) wr).setCell (p := ⟨go, ko * 3 + 2, none⟩) (fun _ => rfl) _
            have KS : Keeps (fun b => w.heap.size ≤ b) w (wr.setCell ⟨go, ko * 3 + 2, none⟩ (.string ⟨(d.text ++ ln).toArray⟩)).drew := (K.trans kst (fun b hb _ => by have hb' : b = go := hb; rw [hb']; exact HNEW.out)).drew
            have HP2 : Shut (RP w.heap.size (wr.setCell ⟨go, ko * 3 + 2, none⟩ (.string ⟨(d.text ++ ln).toArray⟩)).drew (some ⟨go, 0, none⟩) cap (oo ++ [⟨d.name, d.deps, d.text ++ ln⟩]) ∧ Bnd (oo ++ [⟨d.name, d.deps, d.text ++ ln⟩]) q ∧ parseR 0 s [] = parseR q (s.drop q) (oo ++ [⟨d.name, d.deps, d.text ++ ln⟩])) := shut ⟨hrp, hB, hPR⟩
            have HKL : Shut ((oo ++ [(⟨d.name, d.deps, d.text ++ ln⟩ : SrcD)]).length = k) := shut (by rw [List.length_append, hko2, hko]; rfl)
            have frz := blk_free (kdr.blk hcur (fun h => h)) (ko * 3 + 2)
            have w9 : IntKind.i64.wrap ((k : Int) - 1) = (ko : Int) := by rw [IntKind.wrap_i64]; omega
            have i0 : (0 : Int) ≤ ko := by omega
            have i1 : (ko : Int) < k := by omega
            have HT : Shut ((d.text ++ ln).toArray = (d.text ++ ln).toArray) := shut rfl
            obtain ⟨tx, htx⟩ : ∃ tx, d.text = tx := ⟨_, rfl⟩
            rw [htx] at hA hmx hsd hmx2 ctd ct KS HP2 HKL
            have HTX := shut htx
            have HKO := shut hko
            have HKO2 := shut hko2
            clear hst hB hPR htl hrp HP hone hk0 kst hko hko2 htx hcur
            go_wp2_with fail
            refine wp_region_mix (fun _ => True) [(true, 0), (true, 1), (true, 2), (true, 3), (true, 4), (true, 5), (true, 6), (true, 7), (true, 8), (true, 9), (true, 11), (true, 12), (true, 13), (true, 14), (false, 10), (true, 15), (true, 16), (true, 17), (false, 18)] (by kernel_rfl) (by kernel_rfl) trivial ?_
            simp only [mixItems, List.map_cons, List.map_nil, List.getD_cons_zero, List.getD_cons_succ]
            iterate 14
              refine wpMix_free (fun K hK => ?_); go_simp; refine hK _ ?_; clear hK K
            refine wpMix_one (fun K hK => ?_)
            go_wp2_with fail
            refine hK _ _ trivial ?_
            clear hK K
            iterate 3
              refine wpMix_free (fun K hK => ?_); go_simp; refine hK _ ?_; clear hK K
            refine wpMix_one (fun K hK => ?_)
            go_wp2_with fail
            any_goals try (rename_i hfz; simp [frz] at hfz; done)
            refine hK _ _ trivial ?_
            clear hK K
            refine wpMix_nil ?_
            go_wp2_with fail
            go_roundw
            case rel => exact ⟨q, k, some ⟨go, 0, none⟩, cap, _, by go_num, rfl, by omega, by omega, KS, HKL, HP2⟩
            case measure => (simp [intOf]; try omega)

        have hl2i : ¬ (line.length : Int) < 2 := by omega
        have hs2 := fun W => str_twoS line (by omega) W
        by_cases ht2 : line.take 2 = [61, 61]
        rotate_left
        · have hqt : (line.take 2 == [61, 61]) = false := by rw [beq_eq_false_iff_ne]; exact ht2
          have HNH : Shut (¬ isHead (s.drop p) = true) := shut (fun h => by have := (head_bare _).1 h; rw [HLN.out] at this; exact ht2 this.2)
          clear ht2
          generalize line.take 2 = l2 at *
          by_cases hk0 : k = 0
          · have hout : out = [] := List.eq_nil_of_length_eq_zero (by rw [HK.out]; exact hk0)
            subst hout
            subst hk0
            by_cases hl0 : line = []
            · subst hl0
              have hb0 : bareN (s.drop p) = 0 := by
                have h1 := congrArg List.length HLN.out
                unfold bareL at h1
                rw [List.length_take, List.length_nil] at h1
                have h2 := bare_le (s.drop p)
                omega
              have hst : stepM [] (s.drop p) = (0, []) := by
                unfold stepM
                rw [if_neg HNH.out, if_pos (by rfl), if_pos hb0]
              have hB : Bnd [] q := ⟨Nat.zero_le _, fun d hd => by cases hd⟩
              have HP2 : Shut (RP w.heap.size wr ao cap [] ∧ Bnd [] q ∧ parseR 0 s [] = parseR q (s.drop q) []) := shut ⟨HP.out.1, hB, by have := step_on HNE.out HP.out.2.2 hst; rwa [HQ.out] at this⟩
              have hle : (([] : List UInt8) == []) = true := rfl
              clear hb0 hst hB HP
              go_wp2_with fail
              go_roundw
              case rel => exact ⟨q, 0, ao, cap, [], by go_num, rfl, by omega, by omega, K, HK, HP2⟩
              case measure => (simp [intOf]; try omega)

            · have hle : (line == []) = false := by rw [beq_eq_false_iff_ne]; exact hl0
              have hb0 : bareN (s.drop p) ≠ 0 := by
                intro h1
                apply hl0
                rw [← HLN.out]
                unfold bareL
                rw [h1]
                rfl
              have hz : RR = (40, p, []) := by
                rw [← HR.out]
                exact step_bad HNE.out HP.out.2.2 (by unfold stepM; rw [if_neg HNH.out, if_pos (by rfl), if_neg hb0]) (by decide)
              clear hb0 hl0
              have HZ := shut hz
              have KF := shut (keepsHi K)
              clear hz HP HR K
              go_wp2_with fail
              go_ret3
              rw [HZ.out]
              exact ⟨KF.out, .inr ⟨by show ¬ (40 : Int) = 0; decide, rfl⟩⟩

          · have hk1 : ((k : Int) == 0) = false := by rw [beq_eq_false_iff_ne]; omega
            have hk2 : ¬ (k : Int) = 0 := by omega
            have hone : out ≠ [] := fun q => hk0 (by rw [← HK.out, q]; rfl)
            obtain ⟨oo, d, rfl⟩ : ∃ r x, out = r ++ [x] := ⟨out.dropLast, out.getLast hone, (List.dropLast_concat_getLast hone).symm⟩
            obtain ⟨go, rfl⟩ := HP.out.1.head hone
            have hko : k = oo.length + 1 := by rw [← HK.out]; simp
            obtain ⟨ko, hko2⟩ : ∃ ko, oo.length = ko := ⟨_, rfl⟩
            have hcut2 := HCUT2.out
            have hst : stepM (oo ++ [d]) (s.drop p) = (0, oo ++ [⟨d.name, d.deps, d.text ++ (s.drop p).take (lineN (s.drop p))⟩]) := by
              unfold stepM
              rw [if_neg HNH.out, if_neg (by simp), addText_app]
            have hB := bnd_step HP.out.2.1 (by rw [hst])
            rw [hst, HQ.out] at hB
            have hPR := step_on HNE.out HP.out.2.2 hst
            rw [HQ.out] at hPR
            have htl : (d.text ++ (s.drop p).take (lineN (s.drop p))).length ≤ bigN := by
              have := hB.2 _ (List.mem_append_right oo (List.mem_singleton_self _))
              unfold bigN
              simp only at this
              omega
            have hrp := (HP.out.1.text htl).keepsN (Keeps.refl Nothing _).drew
            obtain ⟨-, ct⟩ := HP.out.1.cells (j := oo.length) (d := d) (List.getElem?_concat_length ..)
            obtain ⟨cur, hcur⟩ := HP.out.1.blk
            have HBL := shut hcur
            rw [hko2] at hko hrp ct
            generalize (s.drop p).take (lineN (s.drop p)) = ln at *
            have hA : (⟨d.text.toArray⟩ : ByteArray) ++ ⟨ln.toArray⟩ = ⟨(d.text ++ ln).toArray⟩ := by apply ByteArray.ext; simp
            have hmx : d.text.length + ln.length ≤ 100000000 := by rw [List.length_append] at htl; exact htl
            have hsd : (ByteArray.mk d.text.toArray).size = d.text.length := rfl
            have hsl : (ByteArray.mk ln.toArray).size = ln.length := rfl
            have hmx2 : ¬ 9223372036854775807 < d.text.length + ln.length := by omega
            have HNEW := shut (HP.out.1.new go rfl)
            have kdr : Keeps Nothing wr wr.drew := (Keeps.refl Nothing wr).drew
            have ctd := kdr.cell ct (fun h => h)
            have kst : Keeps (fun b => b = go) wr (wr.setCell ⟨go, ko * 3 + 2, none⟩ (.string ⟨(d.text ++ ln).toArray⟩)) := (Keeps.refl (fun b => b = go) wr).setCell (p := ⟨go, ko * 3 + 2, none⟩) (fun _ => rfl) _
            have KS : Keeps (fun b => w.heap.size ≤ b) w (wr.setCell ⟨go, ko * 3 + 2, none⟩ (.string ⟨(d.text ++ ln).toArray⟩)).drew := (K.trans kst (fun b hb _ => by have hb' : b = go := hb; rw [hb']; exact HNEW.out)).drew
            have HP2 : Shut (RP w.heap.size (wr.setCell ⟨go, ko * 3 + 2, none⟩ (.string ⟨(d.text ++ ln).toArray⟩)).drew (some ⟨go, 0, none⟩) cap (oo ++ [⟨d.name, d.deps, d.text ++ ln⟩]) ∧ Bnd (oo ++ [⟨d.name, d.deps, d.text ++ ln⟩]) q ∧ parseR 0 s [] = parseR q (s.drop q) (oo ++ [⟨d.name, d.deps, d.text ++ ln⟩])) := shut ⟨hrp, hB, hPR⟩
            have HKL : Shut ((oo ++ [(⟨d.name, d.deps, d.text ++ ln⟩ : SrcD)]).length = k) := shut (by rw [List.length_append, hko2, hko]; rfl)
            have frz := blk_free (kdr.blk hcur (fun h => h)) (ko * 3 + 2)
            have w9 : IntKind.i64.wrap ((k : Int) - 1) = (ko : Int) := by rw [IntKind.wrap_i64]; omega
            have i0 : (0 : Int) ≤ ko := by omega
            have i1 : (ko : Int) < k := by omega
            have HT : Shut ((d.text ++ ln).toArray = (d.text ++ ln).toArray) := shut rfl
            obtain ⟨tx, htx⟩ : ∃ tx, d.text = tx := ⟨_, rfl⟩
            rw [htx] at hA hmx hsd hmx2 ctd ct KS HP2 HKL
            have HTX := shut htx
            have HKO := shut hko
            have HKO2 := shut hko2
            clear hst hB hPR htl hrp HP hone hk0 kst hko hko2 htx hcur
            go_wp2_with fail
            refine wp_region_mix (fun _ => True) [(true, 0), (true, 1), (true, 2), (true, 3), (true, 4), (true, 5), (true, 6), (true, 7), (true, 8), (true, 9), (true, 11), (true, 12), (true, 13), (true, 14), (false, 10), (true, 15), (true, 16), (true, 17), (false, 18)] (by kernel_rfl) (by kernel_rfl) trivial ?_
            simp only [mixItems, List.map_cons, List.map_nil, List.getD_cons_zero, List.getD_cons_succ]
            iterate 14
              refine wpMix_free (fun K hK => ?_); go_simp; refine hK _ ?_; clear hK K
            refine wpMix_one (fun K hK => ?_)
            go_wp2_with fail
            refine hK _ _ trivial ?_
            clear hK K
            iterate 3
              refine wpMix_free (fun K hK => ?_); go_simp; refine hK _ ?_; clear hK K
            refine wpMix_one (fun K hK => ?_)
            go_wp2_with fail
            any_goals try (rename_i hfz; simp [frz] at hfz; done)
            refine hK _ _ trivial ?_
            clear hK K
            refine wpMix_nil ?_
            go_wp2_with fail
            go_roundw
            case rel => exact ⟨q, k, some ⟨go, 0, none⟩, cap, _, by go_num, rfl, by omega, by omega, KS, HKL, HP2⟩
            case measure => (simp [intOf]; try omega)

        have hqt : (line.take 2 == [61, 61]) = true := by rw [beq_iff_eq]; exact ht2
        have HH : Shut (isHead (s.drop p) = true) := shut ((head_bare _).2 (by rw [HLN.out]; exact ⟨by omega, ht2⟩))
        clear ht2
        generalize line.take 2 = l2 at *
        have hrh := rhead_any wr line (by omega)
        obtain ⟨hd, hhd⟩ : ∃ hd, headW (blanksL line) = hd := ⟨_, rfl⟩
        have HHD : Shut (headL (s.drop p) = hd) := shut (by unfold headL; rw [HLN.out, hhd])
        rw [hhd] at hrh
        clear hhd
        go_wp2_with fail
        refine hrh.mono ?_
        rintro e0 wb hpost
        clear hrh
        cases hd with
        | none =>
          obtain ⟨rfl, kb⟩ := hpost
          have hz : RR = (40, p, []) := by
            rw [← HR.out]
            exact step_bad HNE.out HP.out.2.2 (by unfold stepM; rw [if_pos HH.out, HHD.out]; rfl) (by decide)
          have HZ := shut hz
          have KF := shut (keepsHi (K.trans kb (fun _ h _ => h.elim)))
          clear hz HP HR
          go_wp2_with fail
          go_ret3
          rw [HZ.out]
          exact ⟨KF.out, .inr ⟨by show ¬ (40 : Int) = 0; decide, rfl⟩⟩

        | some nd =>
          obtain ⟨nm, deps⟩ := nd
          obtain ⟨ad, cd, rfl, kb, RD, hnm, hda⟩ := hpost
          have KB := K.trans kb (fun _ h _ => h.elim)
          obtain ⟨m, hm⟩ : ∃ m, deps.length = m := ⟨_, rfl⟩
          rw [hm]
          have HM := shut hm
          have HRD := shut RD
          have HNM := shut hnm
          have HDA := shut hda
          clear RD hm hnm hda
          by_cases hk6 : 64 ≤ k
          · have m20 : (64 : Int) ≤ k := by omega
            have hz : RR = (5, p, []) := by
              rw [← HR.out]
              exact step_bad HNE.out HP.out.2.2 (by unfold stepM; rw [if_pos HH.out, HHD.out]; show (if 64 ≤ out.length ∨ 64 < deps.length then (5 : Int) else _) = 5; rw [if_pos (.inl (by rw [HK.out]; exact hk6))]) (by decide)
            have HZ := shut hz
            have KF := shut (keepsHi (KB))
            clear hz HP HR K kb KB
            go_wp2_with fail
            go_ret3
            rw [HZ.out]
            exact ⟨KF.out, .inr ⟨by show ¬ (5 : Int) = 0; decide, rfl⟩⟩

          have m20 : ¬ (64 : Int) ≤ k := by omega
          by_cases hm6 : 64 < m
          · have m21 : (64 : Int) < m := by omega
            have hz : RR = (5, p, []) := by
              rw [← HR.out]
              exact step_bad HNE.out HP.out.2.2 (by unfold stepM; rw [if_pos HH.out, HHD.out]; show (if 64 ≤ out.length ∨ 64 < deps.length then (5 : Int) else _) = 5; rw [if_pos (.inr (by rw [HM.out]; exact hm6))]) (by decide)
            have HZ := shut hz
            have KF := shut (keepsHi (KB))
            clear hz HP HR K kb KB
            go_wp2_with fail
            go_ret3
            rw [HZ.out]
            exact ⟨KF.out, .inr ⟨by show ¬ (5 : Int) = 0; decide, rfl⟩⟩

          have m21 : ¬ (64 : Int) < m := by omega
          have H64 : Shut (¬ (64 ≤ out.length ∨ 64 < deps.length)) := shut (by rw [HK.out, HM.out]; omega)
          clear hcut hs2 hqt hmn
          go_wp2_with fail
          go_loopw [13] (fun s13 wx => ∃ t : Nat, s13 = .int .i64 t ∧ t ≤ k ∧ Keeps Nothing wb wx ∧ Shut (∀ x ∈ out.take t, x.name ≠ nm)) (fun s13 _ => k - (intOf s13).toNat)
          case atStart => exact ⟨0, rfl, Nat.zero_le _, Keeps.refl _ _, shut (by simp)⟩
          case round =>
            obtain ⟨t, rfl, ht, KL, HT⟩ := hrel
            by_cases hlt3 : t < k
            · have p1 : (t : Int) < k := by omega
              have p0 : (0 : Int) ≤ t := by omega
              obtain ⟨x, hx⟩ : ∃ x, out[t]? = some x := ⟨_, List.getElem?_eq_getElem (by rw [HK.out]; exact hlt3)⟩
              obtain ⟨go, rfl⟩ := HP.out.1.head (by rintro rfl; simp at hx)
              obtain ⟨cn, -⟩ := (HP.out.1.keepsN (kb.trans KL (fun _ h _ => h))).cells hx
              by_cases hxn : x.name = nm
              · have hxb : (x.name == nm) = true := by rw [beq_iff_eq]; exact hxn
                have hxm := List.mem_of_getElem? hx
                have hz : RR = (23, p, []) := by
                  rw [← HR.out]
                  exact step_bad HNE.out HP.out.2.2 (by unfold stepM; rw [if_pos HH.out, HHD.out]; show (if 64 ≤ out.length ∨ 64 < deps.length then (5 : Int) else if Twice out nm deps then 23 else 0) = 23; rw [if_neg H64.out, if_pos (.inl ⟨x, hxm, hxn⟩)]) (by decide)
                have HZ := shut hz
                have KF := shut (keepsHi (KB.trans KL (fun _ h _ => h.elim)))
                clear hz HP HR hxn hx K kb KB KL HT
                go_wp2_with fail
                go_ret3
                rw [HZ.out]
                exact ⟨KF.out, .inr ⟨by show ¬ (23 : Int) = 0; decide, rfl⟩⟩

              · have hxb : (x.name == nm) = false := by rw [beq_eq_false_iff_ne]; exact hxn
                have HT2 : Shut (∀ x ∈ out.take (t + 1), x.name ≠ nm) := shut (all_take (P := fun x => x.name ≠ nm) hx HT.out hxn)
                clear hx hxn HT
                go_wp2_with fail
                go_roundw
                case rel => exact ⟨t + 1, by go_num, by omega, KL, HT2⟩
                case measure => (simp [intOf]; try omega)
            obtain rfl : t = k := by omega
            have p1 : ¬ (t : Int) < t := by omega
            have HTA := shut (all_of_take (P := fun x => x.name ≠ nm) HK.out HT.out)
            clear HT
            have KL3 := KL
            clear KL
            go_wp2_with fail
            go_loopw [14] (fun s14 wx => ∃ v : Nat, s14 = .int .i64 v ∧ v ≤ m ∧ Keeps Nothing wb wx ∧ Shut (nm ∉ deps.take v ∧ (deps.take v).Nodup)) (fun s14 _ => m - (intOf s14).toNat)
            case atStart => exact ⟨0, rfl, Nat.zero_le _, KL3, shut (by simp)⟩
            case round =>
              obtain ⟨v, rfl, hv, KL, HV⟩ := hrel
              clear KL3
              by_cases hlt4 : v < m
              · have r1 : (v : Int) < m := by omega
                have r0 : (0 : Int) ≤ v := by omega
                obtain ⟨d0, hd0⟩ : ∃ d0, deps[v]? = some d0 := ⟨_, List.getElem?_eq_getElem (by rw [HM.out]; exact hlt4)⟩
                obtain ⟨gd, od, rfl⟩ := HRD.out.head (by intro q; have := congrArg List.length q; rw [List.length_map, HM.out] at this; simp at this; omega)
                have hc0 := HRD.out.cell (j := v) (v := txV d0) (by rw [List.getElem?_map, hd0]; rfl)
                unfold txV at hc0
                have HD0 := shut hd0
                clear hd0
                have KL4 := KL
                clear KL
                go_wp2_with fail
                go_loopw [15] (fun s15 wx => ∃ u : Nat, s15 = .int .i64 u ∧ u ≤ v ∧ Keeps Nothing wb wx ∧ Shut (d0 ∉ deps.take u)) (fun s15 _ => v - (intOf s15).toNat)
                case atStart => exact ⟨0, rfl, Nat.zero_le _, KL4, shut (by simp)⟩
                case round =>
                  obtain ⟨u, rfl, hu, KL, HU⟩ := hrel
                  clear KL4
                  have hc0w := KL.cell hc0 (fun h => h)
                  by_cases hlt5 : u < v
                  · have t1 : (u : Int) < v := by omega
                    have t2 : (u : Int) < m := by omega
                    have t0 : (0 : Int) ≤ u := by omega
                    obtain ⟨d1, hd1⟩ : ∃ d1, deps[u]? = some d1 := ⟨_, List.getElem?_eq_getElem (by rw [HM.out]; omega)⟩
                    have hc1 := (HRD.out.keepsN KL).cell (j := u) (v := txV d1) (by rw [List.getElem?_map, hd1]; rfl)
                    unfold txV at hc1
                    by_cases hdd : d0 = d1
                    · have hdb : (d0 == d1) = true := by rw [beq_iff_eq]; exact hdd
                      have hnd : ¬ deps.Nodup := fun q => by
                        have h1 := HD0.out
                        subst hdd
                        obtain ⟨a1, a2⟩ := List.getElem?_eq_some_iff.1 h1
                        obtain ⟨b1, b2⟩ := List.getElem?_eq_some_iff.1 hd1
                        exact List.pairwise_iff_getElem.1 q u v b1 a1 hlt5 (b2.trans a2.symm)
                      have hz : RR = (23, p, []) := by
                        rw [← HR.out]
                        exact step_bad HNE.out HP.out.2.2 (by unfold stepM; rw [if_pos HH.out, HHD.out]; show (if 64 ≤ out.length ∨ 64 < deps.length then (5 : Int) else if Twice out nm deps then 23 else 0) = 23; rw [if_neg H64.out, if_pos (.inr (.inr hnd))]) (by decide)
                      have HZ := shut hz
                      have KF := shut (keepsHi (KB.trans KL (fun _ h _ => h.elim)))
                      clear hz HP HR hdd hd1 hnd HU HV HD0
                      go_wp2_with fail
                      go_quiet (fail)
                      go_wp2_with fail
                      go_ret3
                      rw [HZ.out]
                      exact ⟨KF.out.drewN _, .inr ⟨by show ¬ (23 : Int) = 0; decide, rfl⟩⟩

                    · have hdb : (d0 == d1) = false := by rw [beq_eq_false_iff_ne]; exact hdd
                      have HU2 : Shut (d0 ∉ deps.take (u + 1)) := shut (by
                        rw [List.take_add_one, hd1]
                        simp only [Option.toList_some, List.mem_append, List.mem_singleton]
                        rintro (q | q)
                        · exact HU.out q
                        · exact hdd q)
                      clear hdd hd1 HU
                      go_wp2_with fail
                      go_quiet (fail)
                      go_wp2_with fail
                      go_roundw
                      case rel => exact ⟨u + 1, by go_num, by omega, KL.drewN _, HU2⟩
                      case measure => (simp [intOf]; try omega)
                  obtain rfl : u = v := by omega
                  have t1 : ¬ (u : Int) < u := by omega
                  by_cases hdn : d0 = nm
                  · have hdb : (d0 == nm) = true := by rw [beq_iff_eq]; exact hdn
                    have hmem : nm ∈ deps := by rw [← hdn]; exact List.mem_of_getElem? HD0.out
                    have hz : RR = (23, p, []) := by
                      rw [← HR.out]
                      exact step_bad HNE.out HP.out.2.2 (by unfold stepM; rw [if_pos HH.out, HHD.out]; show (if 64 ≤ out.length ∨ 64 < deps.length then (5 : Int) else if Twice out nm deps then 23 else 0) = 23; rw [if_neg H64.out, if_pos (.inr (.inl hmem))]) (by decide)
                    have HZ := shut hz
                    have KF := shut (keepsHi (KB.trans KL (fun _ h _ => h.elim)))
                    clear hz HP HR hdn HU HV HD0
                    go_wp2_with fail
                    go_ret3
                    rw [HZ.out]
                    exact ⟨KF.out, .inr ⟨by show ¬ (23 : Int) = 0; decide, rfl⟩⟩

                  · have hdb : (d0 == nm) = false := by rw [beq_eq_false_iff_ne]; exact hdn
                    have HV2 : Shut (nm ∉ deps.take (u + 1) ∧ (deps.take (u + 1)).Nodup) := shut ⟨by
                        rw [List.take_add_one, HD0.out]
                        simp only [Option.toList_some, List.mem_append, List.mem_singleton]
                        rintro (q | q)
                        · exact HV.out.1 q
                        · exact hdn q.symm, nodup_upto HD0.out HV.out.2 HU.out⟩
                    clear hdn HU HV
                    go_wp2_with fail
                    go_roundw
                    case rel => exact ⟨u + 1, by go_num, by omega, KL, HV2⟩
                    case measure => (simp [intOf]; try omega)
              obtain rfl : v = m := by omega
              have r1 : ¬ (v : Int) < v := by omega
              have htw : ¬ Twice out nm deps := by
                rintro (⟨x, h1, h2⟩ | h1 | h1)
                · exact HTA.out x h1 h2
                · have := HV.out.1
                  rw [List.take_of_length_le (Nat.le_of_eq HM.out)] at this
                  exact this h1
                · have := HV.out.2
                  rw [List.take_of_length_le (Nat.le_of_eq HM.out)] at this
                  exact h1 this
              have hst : stepM out (s.drop p) = (0, out ++ [⟨nm, deps, []⟩]) := by
                unfold stepM
                rw [if_pos HH.out, HHD.out]
                show ((if 64 ≤ out.length ∨ 64 < deps.length then (5 : Int) else if Twice out nm deps then 23 else 0), out ++ [(⟨nm, deps, []⟩ : SrcD)]) = _
                rw [if_neg H64.out, if_neg htw]
              have hB := bnd_step HP.out.2.1 (by rw [hst])
              rw [hst, HQ.out] at hB
              have hPR := step_on HNE.out HP.out.2.2 hst
              rw [HQ.out] at hPR
              have HB2 := shut hB
              have HPR2 := shut hPR
              have hdl : ∀ x ∈ deps, x.length ≤ bigN := fun x hx => by
                have h1 := HDA.out
                rw [List.all_eq_true] at h1
                have := isName_len (h1 x hx)
                unfold bigN
                omega
              have HDL := shut hdl
              have kwl := kb.trans KL (fun _ h _ => h)
              have BE := blk_new wr #[] 9
              have ke : Keeps Nothing wr (wr.alloc (.cells #[] 9)) := (Keeps.refl Nothing wr).alloc _
              have RE := shut (rowR_here BE)
              have SRC := shut (((HRD.out.keepsN KL).keepsN ke).srcS (tx := 22) Tryd.underlying22 (n := v) (by rw [List.length_map, HM.out]) cd)
              have hvb : v ≤ 1000000000 := by omega
              clear htw hst hB hPR hdl HV HTA BE
              go_wp2_with (at_builtin; refine wpList_appZ _ rfl (.tmp 142) (.tmp 143) rfl (some ⟨wr.heap.size, 0, none⟩) 0 [] 0 rfl rfl RE.out _ v (deps.map txV) rfl SRC.out (by omega) hvb ?_)
              intro a2 c2 w3 R3 _ k3 m3
              try rw [List.nil_append] at R3
              have k13 : Keeps Nothing wr w3 := ke.trans k3 (fun g hg hlt => by
                have : wr.heap.size = g := by simpa [blockOf] using hg
                omega)
              have BX := blk_new w3 #[.string ⟨nm.toArray⟩, .slice a2 v c2, .string ⟨#[]⟩] 43
              have kx : Keeps Nothing w3 (w3.alloc (.cells #[.string ⟨nm.toArray⟩, .slice a2 v c2, .string ⟨#[]⟩] 43)) := (Keeps.refl Nothing w3).alloc _
              have R4 := R3.keepsN kx
              have hel : SrcIs (strB (w3.alloc (.cells #[.string ⟨nm.toArray⟩, .slice a2 v c2, .string ⟨#[]⟩] 43))) (w3.alloc (.cells #[.string ⟨nm.toArray⟩, .slice a2 v c2, .string ⟨#[]⟩] 43)) ⟨nm, deps, []⟩ [.string ⟨nm.toArray⟩, .slice a2 v c2, .string ⟨#[]⟩] := by
                refine ⟨a2, c2, by rw [HM.out]; rfl, by have := isName_len HNM.out; unfold bigN; show nm.length ≤ _; omega, Nat.zero_le _, ⟨by have := R4.le; rwa [List.length_map] at this, R4.max⟩, rowR_sl R4 (by rw [HM.out]; unfold bigN; omega) HDL.out (fun g hg => rowR_blk R4 hg)⟩
              have HEL := shut hel
              have kall := (kwl.trans k13 (fun _ h _ => h)).trans kx (fun _ h _ => h)
              have hRP := HP.out.1.keepsN kall
              obtain ⟨L, ow, hL, heL⟩ := hRP.row
              have OW := shut ow
              have HLL := shut hL
              have HEE := shut heL
              have HNEW := shut hRP.new
              have KX := K.trans kall (fun _ h _ => h.elim)
              have HSZ : Shut (w.heap.size ≤ (w3.alloc (.cells #[.string ⟨nm.toArray⟩, .slice a2 v c2, .string ⟨#[]⟩] 43)).heap.size) := shut KX.size
              have HBX := shut BX
              have HLK : Shut (L.length = t) := shut (by rw [hL, HK.out])
              have htb : t ≤ 1000000000 := by omega
              clear hel hRP ow hL heL BX R3 R4 k3 m3 kall k13 ke kwl RE SRC HP kb KL HRD KB K
              go_wp2_with (at_builtin; refine wpList_appSrc _ rfl (.tmp 140) (.tmp 146) rfl ao cap L t HLK.out rfl OW.out _ _ [.string ⟨nm.toArray⟩, .slice a2 v c2, .string ⟨#[]⟩] rfl rfl (src_one _ _ _ _ _) rfl HBX.out htb ?_)
              intro a5 c5 w5 O5 k5 m5
              have HP2 : Shut (RP w.heap.size w5 a5 c5 (out ++ [⟨nm, deps, []⟩]) ∧ Bnd (out ++ [⟨nm, deps, []⟩]) q ∧ parseR 0 s [] = parseR q (s.drop q) (out ++ [⟨nm, deps, []⟩])) := shut ⟨RP.push HEE.out HLL.out OW.out HNEW.out HSZ.out HEL.out O5 k5 (by rw [World.size_alloc]; exact m5), HB2.out, HPR2.out⟩
              have HKL : Shut ((out ++ [(⟨nm, deps, []⟩ : SrcD)]).length = t + 1) := shut (by rw [List.length_append, HK.out]; rfl)
              have KS := KX.trans k5 (fun g hg _ => HNEW.out g hg)
              clear O5 k5 m5 KX OW HEE HLL HEL HBX HNEW
              go_wp2_with fail
              go_roundw
              case rel => exact ⟨q, t + 1, a5, c5, _, by go_num, rfl, by omega, by omega, KS, HKL, HP2⟩
              case measure => (simp [intOf]; try omega)
      · have hin3 : (i : Int) < n := by
          have := (List.getElem?_eq_some_iff.1 h10).1
          have := HN.out
          omega
        have hix := fun kk W => str_at s h10 kk W
        have h1010 : ((10 : UInt8).toNat : Int) = 10 := rfl
        rw [h1010] at hix
        clear h10
        by_cases hl2 : line.length < 2
        · have hl2i : (line.length : Int) < 2 := by omega
          have HNH : Shut (¬ isHead (s.drop p) = true) := shut (fun h => by have := (head_bare _).1 h; rw [HLN.out] at this; omega)
          by_cases hk0 : k = 0
          · have hout : out = [] := List.eq_nil_of_length_eq_zero (by rw [HK.out]; exact hk0)
            subst hout
            subst hk0
            by_cases hl0 : line = []
            · subst hl0
              have hb0 : bareN (s.drop p) = 0 := by
                have h1 := congrArg List.length HLN.out
                unfold bareL at h1
                rw [List.length_take, List.length_nil] at h1
                have h2 := bare_le (s.drop p)
                omega
              have hst : stepM [] (s.drop p) = (0, []) := by
                unfold stepM
                rw [if_neg HNH.out, if_pos (by rfl), if_pos hb0]
              have hB : Bnd [] q := ⟨Nat.zero_le _, fun d hd => by cases hd⟩
              have HP2 : Shut (RP w.heap.size wr ao cap [] ∧ Bnd [] q ∧ parseR 0 s [] = parseR q (s.drop q) []) := shut ⟨HP.out.1, hB, by have := step_on HNE.out HP.out.2.2 hst; rwa [HQ.out] at this⟩
              have hle : (([] : List UInt8) == []) = true := rfl
              clear hb0 hst hB HP
              go_wp2_with fail
              go_roundw
              case rel => exact ⟨q, 0, ao, cap, [], by go_num, rfl, by omega, by omega, K, HK, HP2⟩
              case measure => (simp [intOf]; try omega)

            · have hle : (line == []) = false := by rw [beq_eq_false_iff_ne]; exact hl0
              have hb0 : bareN (s.drop p) ≠ 0 := by
                intro h1
                apply hl0
                rw [← HLN.out]
                unfold bareL
                rw [h1]
                rfl
              have hz : RR = (40, p, []) := by
                rw [← HR.out]
                exact step_bad HNE.out HP.out.2.2 (by unfold stepM; rw [if_neg HNH.out, if_pos (by rfl), if_neg hb0]) (by decide)
              clear hb0 hl0
              have HZ := shut hz
              have KF := shut (keepsHi K)
              clear hz HP HR K
              go_wp2_with fail
              go_ret3
              rw [HZ.out]
              exact ⟨KF.out, .inr ⟨by show ¬ (40 : Int) = 0; decide, rfl⟩⟩

          · have hk1 : ((k : Int) == 0) = false := by rw [beq_eq_false_iff_ne]; omega
            have hk2 : ¬ (k : Int) = 0 := by omega
            have hone : out ≠ [] := fun q => hk0 (by rw [← HK.out, q]; rfl)
            obtain ⟨oo, d, rfl⟩ : ∃ r x, out = r ++ [x] := ⟨out.dropLast, out.getLast hone, (List.dropLast_concat_getLast hone).symm⟩
            obtain ⟨go, rfl⟩ := HP.out.1.head hone
            have hko : k = oo.length + 1 := by rw [← HK.out]; simp
            obtain ⟨ko, hko2⟩ : ∃ ko, oo.length = ko := ⟨_, rfl⟩
            have hcut2 := HCUT2.out
            have hst : stepM (oo ++ [d]) (s.drop p) = (0, oo ++ [⟨d.name, d.deps, d.text ++ (s.drop p).take (lineN (s.drop p))⟩]) := by
              unfold stepM
              rw [if_neg HNH.out, if_neg (by simp), addText_app]
            have hB := bnd_step HP.out.2.1 (by rw [hst])
            rw [hst, HQ.out] at hB
            have hPR := step_on HNE.out HP.out.2.2 hst
            rw [HQ.out] at hPR
            have htl : (d.text ++ (s.drop p).take (lineN (s.drop p))).length ≤ bigN := by
              have := hB.2 _ (List.mem_append_right oo (List.mem_singleton_self _))
              unfold bigN
              simp only at this
              omega
            have hrp := (HP.out.1.text htl).keepsN (Keeps.refl Nothing _).drew
            obtain ⟨-, ct⟩ := HP.out.1.cells (j := oo.length) (d := d) (List.getElem?_concat_length ..)
            obtain ⟨cur, hcur⟩ := HP.out.1.blk
            have HBL := shut hcur
            rw [hko2] at hko hrp ct
            generalize (s.drop p).take (lineN (s.drop p)) = ln at *
            have hA : (⟨d.text.toArray⟩ : ByteArray) ++ ⟨ln.toArray⟩ = ⟨(d.text ++ ln).toArray⟩ := by apply ByteArray.ext; simp
            have hmx : d.text.length + ln.length ≤ 100000000 := by rw [List.length_append] at htl; exact htl
            have hsd : (ByteArray.mk d.text.toArray).size = d.text.length := rfl
            have hsl : (ByteArray.mk ln.toArray).size = ln.length := rfl
            have hmx2 : ¬ 9223372036854775807 < d.text.length + ln.length := by omega
            have HNEW := shut (HP.out.1.new go rfl)
            have kdr : Keeps Nothing wr wr.drew := (Keeps.refl Nothing wr).drew
            have ctd := kdr.cell ct (fun h => h)
            have kst : Keeps (fun b => b = go) wr (wr.setCell ⟨go, ko * 3 + 2, none⟩ (.string ⟨(d.text ++ ln).toArray⟩)) := (Keeps.refl (fun b => b = go) wr).setCell (p := ⟨go, ko * 3 + 2, none⟩) (fun _ => rfl) _
            have KS : Keeps (fun b => w.heap.size ≤ b) w (wr.setCell ⟨go, ko * 3 + 2, none⟩ (.string ⟨(d.text ++ ln).toArray⟩)).drew := (K.trans kst (fun b hb _ => by have hb' : b = go := hb; rw [hb']; exact HNEW.out)).drew
            have HP2 : Shut (RP w.heap.size (wr.setCell ⟨go, ko * 3 + 2, none⟩ (.string ⟨(d.text ++ ln).toArray⟩)).drew (some ⟨go, 0, none⟩) cap (oo ++ [⟨d.name, d.deps, d.text ++ ln⟩]) ∧ Bnd (oo ++ [⟨d.name, d.deps, d.text ++ ln⟩]) q ∧ parseR 0 s [] = parseR q (s.drop q) (oo ++ [⟨d.name, d.deps, d.text ++ ln⟩])) := shut ⟨hrp, hB, hPR⟩
            have HKL : Shut ((oo ++ [(⟨d.name, d.deps, d.text ++ ln⟩ : SrcD)]).length = k) := shut (by rw [List.length_append, hko2, hko]; rfl)
            have frz := blk_free (kdr.blk hcur (fun h => h)) (ko * 3 + 2)
            have w9 : IntKind.i64.wrap ((k : Int) - 1) = (ko : Int) := by rw [IntKind.wrap_i64]; omega
            have i0 : (0 : Int) ≤ ko := by omega
            have i1 : (ko : Int) < k := by omega
            have HT : Shut ((d.text ++ ln).toArray = (d.text ++ ln).toArray) := shut rfl
            obtain ⟨tx, htx⟩ : ∃ tx, d.text = tx := ⟨_, rfl⟩
            rw [htx] at hA hmx hsd hmx2 ctd ct KS HP2 HKL
            have HTX := shut htx
            have HKO := shut hko
            have HKO2 := shut hko2
            clear hst hB hPR htl hrp HP hone hk0 kst hko hko2 htx hcur
            go_wp2_with fail
            refine wp_region_mix (fun _ => True) [(true, 0), (true, 1), (true, 2), (true, 3), (true, 4), (true, 5), (true, 6), (true, 7), (true, 8), (true, 9), (true, 11), (true, 12), (true, 13), (true, 14), (false, 10), (true, 15), (true, 16), (true, 17), (false, 18)] (by kernel_rfl) (by kernel_rfl) trivial ?_
            simp only [mixItems, List.map_cons, List.map_nil, List.getD_cons_zero, List.getD_cons_succ]
            iterate 14
              refine wpMix_free (fun K hK => ?_); go_simp; refine hK _ ?_; clear hK K
            refine wpMix_one (fun K hK => ?_)
            go_wp2_with fail
            refine hK _ _ trivial ?_
            clear hK K
            iterate 3
              refine wpMix_free (fun K hK => ?_); go_simp; refine hK _ ?_; clear hK K
            refine wpMix_one (fun K hK => ?_)
            go_wp2_with fail
            any_goals try (rename_i hfz; simp [frz] at hfz; done)
            refine hK _ _ trivial ?_
            clear hK K
            refine wpMix_nil ?_
            go_wp2_with fail
            go_roundw
            case rel => exact ⟨q, k, some ⟨go, 0, none⟩, cap, _, by go_num, rfl, by omega, by omega, KS, HKL, HP2⟩
            case measure => (simp [intOf]; try omega)

        have hl2i : ¬ (line.length : Int) < 2 := by omega
        have hs2 := fun W => str_twoS line (by omega) W
        by_cases ht2 : line.take 2 = [61, 61]
        rotate_left
        · have hqt : (line.take 2 == [61, 61]) = false := by rw [beq_eq_false_iff_ne]; exact ht2
          have HNH : Shut (¬ isHead (s.drop p) = true) := shut (fun h => by have := (head_bare _).1 h; rw [HLN.out] at this; exact ht2 this.2)
          clear ht2
          generalize line.take 2 = l2 at *
          by_cases hk0 : k = 0
          · have hout : out = [] := List.eq_nil_of_length_eq_zero (by rw [HK.out]; exact hk0)
            subst hout
            subst hk0
            by_cases hl0 : line = []
            · subst hl0
              have hb0 : bareN (s.drop p) = 0 := by
                have h1 := congrArg List.length HLN.out
                unfold bareL at h1
                rw [List.length_take, List.length_nil] at h1
                have h2 := bare_le (s.drop p)
                omega
              have hst : stepM [] (s.drop p) = (0, []) := by
                unfold stepM
                rw [if_neg HNH.out, if_pos (by rfl), if_pos hb0]
              have hB : Bnd [] q := ⟨Nat.zero_le _, fun d hd => by cases hd⟩
              have HP2 : Shut (RP w.heap.size wr ao cap [] ∧ Bnd [] q ∧ parseR 0 s [] = parseR q (s.drop q) []) := shut ⟨HP.out.1, hB, by have := step_on HNE.out HP.out.2.2 hst; rwa [HQ.out] at this⟩
              have hle : (([] : List UInt8) == []) = true := rfl
              clear hb0 hst hB HP
              go_wp2_with fail
              go_roundw
              case rel => exact ⟨q, 0, ao, cap, [], by go_num, rfl, by omega, by omega, K, HK, HP2⟩
              case measure => (simp [intOf]; try omega)

            · have hle : (line == []) = false := by rw [beq_eq_false_iff_ne]; exact hl0
              have hb0 : bareN (s.drop p) ≠ 0 := by
                intro h1
                apply hl0
                rw [← HLN.out]
                unfold bareL
                rw [h1]
                rfl
              have hz : RR = (40, p, []) := by
                rw [← HR.out]
                exact step_bad HNE.out HP.out.2.2 (by unfold stepM; rw [if_neg HNH.out, if_pos (by rfl), if_neg hb0]) (by decide)
              clear hb0 hl0
              have HZ := shut hz
              have KF := shut (keepsHi K)
              clear hz HP HR K
              go_wp2_with fail
              go_ret3
              rw [HZ.out]
              exact ⟨KF.out, .inr ⟨by show ¬ (40 : Int) = 0; decide, rfl⟩⟩

          · have hk1 : ((k : Int) == 0) = false := by rw [beq_eq_false_iff_ne]; omega
            have hk2 : ¬ (k : Int) = 0 := by omega
            have hone : out ≠ [] := fun q => hk0 (by rw [← HK.out, q]; rfl)
            obtain ⟨oo, d, rfl⟩ : ∃ r x, out = r ++ [x] := ⟨out.dropLast, out.getLast hone, (List.dropLast_concat_getLast hone).symm⟩
            obtain ⟨go, rfl⟩ := HP.out.1.head hone
            have hko : k = oo.length + 1 := by rw [← HK.out]; simp
            obtain ⟨ko, hko2⟩ : ∃ ko, oo.length = ko := ⟨_, rfl⟩
            have hcut2 := HCUT2.out
            have hst : stepM (oo ++ [d]) (s.drop p) = (0, oo ++ [⟨d.name, d.deps, d.text ++ (s.drop p).take (lineN (s.drop p))⟩]) := by
              unfold stepM
              rw [if_neg HNH.out, if_neg (by simp), addText_app]
            have hB := bnd_step HP.out.2.1 (by rw [hst])
            rw [hst, HQ.out] at hB
            have hPR := step_on HNE.out HP.out.2.2 hst
            rw [HQ.out] at hPR
            have htl : (d.text ++ (s.drop p).take (lineN (s.drop p))).length ≤ bigN := by
              have := hB.2 _ (List.mem_append_right oo (List.mem_singleton_self _))
              unfold bigN
              simp only at this
              omega
            have hrp := (HP.out.1.text htl).keepsN (Keeps.refl Nothing _).drew
            obtain ⟨-, ct⟩ := HP.out.1.cells (j := oo.length) (d := d) (List.getElem?_concat_length ..)
            obtain ⟨cur, hcur⟩ := HP.out.1.blk
            have HBL := shut hcur
            rw [hko2] at hko hrp ct
            generalize (s.drop p).take (lineN (s.drop p)) = ln at *
            have hA : (⟨d.text.toArray⟩ : ByteArray) ++ ⟨ln.toArray⟩ = ⟨(d.text ++ ln).toArray⟩ := by apply ByteArray.ext; simp
            have hmx : d.text.length + ln.length ≤ 100000000 := by rw [List.length_append] at htl; exact htl
            have hsd : (ByteArray.mk d.text.toArray).size = d.text.length := rfl
            have hsl : (ByteArray.mk ln.toArray).size = ln.length := rfl
            have hmx2 : ¬ 9223372036854775807 < d.text.length + ln.length := by omega
            have HNEW := shut (HP.out.1.new go rfl)
            have kdr : Keeps Nothing wr wr.drew := (Keeps.refl Nothing wr).drew
            have ctd := kdr.cell ct (fun h => h)
            have kst : Keeps (fun b => b = go) wr (wr.setCell ⟨go, ko * 3 + 2, none⟩ (.string ⟨(d.text ++ ln).toArray⟩)) := (Keeps.refl (fun b => b = go) wr).setCell (p := ⟨go, ko * 3 + 2, none⟩) (fun _ => rfl) _
            have KS : Keeps (fun b => w.heap.size ≤ b) w (wr.setCell ⟨go, ko * 3 + 2, none⟩ (.string ⟨(d.text ++ ln).toArray⟩)).drew := (K.trans kst (fun b hb _ => by have hb' : b = go := hb; rw [hb']; exact HNEW.out)).drew
            have HP2 : Shut (RP w.heap.size (wr.setCell ⟨go, ko * 3 + 2, none⟩ (.string ⟨(d.text ++ ln).toArray⟩)).drew (some ⟨go, 0, none⟩) cap (oo ++ [⟨d.name, d.deps, d.text ++ ln⟩]) ∧ Bnd (oo ++ [⟨d.name, d.deps, d.text ++ ln⟩]) q ∧ parseR 0 s [] = parseR q (s.drop q) (oo ++ [⟨d.name, d.deps, d.text ++ ln⟩])) := shut ⟨hrp, hB, hPR⟩
            have HKL : Shut ((oo ++ [(⟨d.name, d.deps, d.text ++ ln⟩ : SrcD)]).length = k) := shut (by rw [List.length_append, hko2, hko]; rfl)
            have frz := blk_free (kdr.blk hcur (fun h => h)) (ko * 3 + 2)
            have w9 : IntKind.i64.wrap ((k : Int) - 1) = (ko : Int) := by rw [IntKind.wrap_i64]; omega
            have i0 : (0 : Int) ≤ ko := by omega
            have i1 : (ko : Int) < k := by omega
            have HT : Shut ((d.text ++ ln).toArray = (d.text ++ ln).toArray) := shut rfl
            obtain ⟨tx, htx⟩ : ∃ tx, d.text = tx := ⟨_, rfl⟩
            rw [htx] at hA hmx hsd hmx2 ctd ct KS HP2 HKL
            have HTX := shut htx
            have HKO := shut hko
            have HKO2 := shut hko2
            clear hst hB hPR htl hrp HP hone hk0 kst hko hko2 htx hcur
            go_wp2_with fail
            refine wp_region_mix (fun _ => True) [(true, 0), (true, 1), (true, 2), (true, 3), (true, 4), (true, 5), (true, 6), (true, 7), (true, 8), (true, 9), (true, 11), (true, 12), (true, 13), (true, 14), (false, 10), (true, 15), (true, 16), (true, 17), (false, 18)] (by kernel_rfl) (by kernel_rfl) trivial ?_
            simp only [mixItems, List.map_cons, List.map_nil, List.getD_cons_zero, List.getD_cons_succ]
            iterate 14
              refine wpMix_free (fun K hK => ?_); go_simp; refine hK _ ?_; clear hK K
            refine wpMix_one (fun K hK => ?_)
            go_wp2_with fail
            refine hK _ _ trivial ?_
            clear hK K
            iterate 3
              refine wpMix_free (fun K hK => ?_); go_simp; refine hK _ ?_; clear hK K
            refine wpMix_one (fun K hK => ?_)
            go_wp2_with fail
            any_goals try (rename_i hfz; simp [frz] at hfz; done)
            refine hK _ _ trivial ?_
            clear hK K
            refine wpMix_nil ?_
            go_wp2_with fail
            go_roundw
            case rel => exact ⟨q, k, some ⟨go, 0, none⟩, cap, _, by go_num, rfl, by omega, by omega, KS, HKL, HP2⟩
            case measure => (simp [intOf]; try omega)

        have hqt : (line.take 2 == [61, 61]) = true := by rw [beq_iff_eq]; exact ht2
        have HH : Shut (isHead (s.drop p) = true) := shut ((head_bare _).2 (by rw [HLN.out]; exact ⟨by omega, ht2⟩))
        clear ht2
        generalize line.take 2 = l2 at *
        have hrh := rhead_any wr line (by omega)
        obtain ⟨hd, hhd⟩ : ∃ hd, headW (blanksL line) = hd := ⟨_, rfl⟩
        have HHD : Shut (headL (s.drop p) = hd) := shut (by unfold headL; rw [HLN.out, hhd])
        rw [hhd] at hrh
        clear hhd
        go_wp2_with fail
        refine hrh.mono ?_
        rintro e0 wb hpost
        clear hrh
        cases hd with
        | none =>
          obtain ⟨rfl, kb⟩ := hpost
          have hz : RR = (40, p, []) := by
            rw [← HR.out]
            exact step_bad HNE.out HP.out.2.2 (by unfold stepM; rw [if_pos HH.out, HHD.out]; rfl) (by decide)
          have HZ := shut hz
          have KF := shut (keepsHi (K.trans kb (fun _ h _ => h.elim)))
          clear hz HP HR
          go_wp2_with fail
          go_ret3
          rw [HZ.out]
          exact ⟨KF.out, .inr ⟨by show ¬ (40 : Int) = 0; decide, rfl⟩⟩

        | some nd =>
          obtain ⟨nm, deps⟩ := nd
          obtain ⟨ad, cd, rfl, kb, RD, hnm, hda⟩ := hpost
          have KB := K.trans kb (fun _ h _ => h.elim)
          obtain ⟨m, hm⟩ : ∃ m, deps.length = m := ⟨_, rfl⟩
          rw [hm]
          have HM := shut hm
          have HRD := shut RD
          have HNM := shut hnm
          have HDA := shut hda
          clear RD hm hnm hda
          by_cases hk6 : 64 ≤ k
          · have m20 : (64 : Int) ≤ k := by omega
            have hz : RR = (5, p, []) := by
              rw [← HR.out]
              exact step_bad HNE.out HP.out.2.2 (by unfold stepM; rw [if_pos HH.out, HHD.out]; show (if 64 ≤ out.length ∨ 64 < deps.length then (5 : Int) else _) = 5; rw [if_pos (.inl (by rw [HK.out]; exact hk6))]) (by decide)
            have HZ := shut hz
            have KF := shut (keepsHi (KB))
            clear hz HP HR K kb KB
            go_wp2_with fail
            go_ret3
            rw [HZ.out]
            exact ⟨KF.out, .inr ⟨by show ¬ (5 : Int) = 0; decide, rfl⟩⟩

          have m20 : ¬ (64 : Int) ≤ k := by omega
          by_cases hm6 : 64 < m
          · have m21 : (64 : Int) < m := by omega
            have hz : RR = (5, p, []) := by
              rw [← HR.out]
              exact step_bad HNE.out HP.out.2.2 (by unfold stepM; rw [if_pos HH.out, HHD.out]; show (if 64 ≤ out.length ∨ 64 < deps.length then (5 : Int) else _) = 5; rw [if_pos (.inr (by rw [HM.out]; exact hm6))]) (by decide)
            have HZ := shut hz
            have KF := shut (keepsHi (KB))
            clear hz HP HR K kb KB
            go_wp2_with fail
            go_ret3
            rw [HZ.out]
            exact ⟨KF.out, .inr ⟨by show ¬ (5 : Int) = 0; decide, rfl⟩⟩

          have m21 : ¬ (64 : Int) < m := by omega
          have H64 : Shut (¬ (64 ≤ out.length ∨ 64 < deps.length)) := shut (by rw [HK.out, HM.out]; omega)
          clear hcut hs2 hqt hmn
          go_wp2_with fail
          go_loopw [13] (fun s13 wx => ∃ t : Nat, s13 = .int .i64 t ∧ t ≤ k ∧ Keeps Nothing wb wx ∧ Shut (∀ x ∈ out.take t, x.name ≠ nm)) (fun s13 _ => k - (intOf s13).toNat)
          case atStart => exact ⟨0, rfl, Nat.zero_le _, Keeps.refl _ _, shut (by simp)⟩
          case round =>
            obtain ⟨t, rfl, ht, KL, HT⟩ := hrel
            by_cases hlt3 : t < k
            · have p1 : (t : Int) < k := by omega
              have p0 : (0 : Int) ≤ t := by omega
              obtain ⟨x, hx⟩ : ∃ x, out[t]? = some x := ⟨_, List.getElem?_eq_getElem (by rw [HK.out]; exact hlt3)⟩
              obtain ⟨go, rfl⟩ := HP.out.1.head (by rintro rfl; simp at hx)
              obtain ⟨cn, -⟩ := (HP.out.1.keepsN (kb.trans KL (fun _ h _ => h))).cells hx
              by_cases hxn : x.name = nm
              · have hxb : (x.name == nm) = true := by rw [beq_iff_eq]; exact hxn
                have hxm := List.mem_of_getElem? hx
                have hz : RR = (23, p, []) := by
                  rw [← HR.out]
                  exact step_bad HNE.out HP.out.2.2 (by unfold stepM; rw [if_pos HH.out, HHD.out]; show (if 64 ≤ out.length ∨ 64 < deps.length then (5 : Int) else if Twice out nm deps then 23 else 0) = 23; rw [if_neg H64.out, if_pos (.inl ⟨x, hxm, hxn⟩)]) (by decide)
                have HZ := shut hz
                have KF := shut (keepsHi (KB.trans KL (fun _ h _ => h.elim)))
                clear hz HP HR hxn hx K kb KB KL HT
                go_wp2_with fail
                go_ret3
                rw [HZ.out]
                exact ⟨KF.out, .inr ⟨by show ¬ (23 : Int) = 0; decide, rfl⟩⟩

              · have hxb : (x.name == nm) = false := by rw [beq_eq_false_iff_ne]; exact hxn
                have HT2 : Shut (∀ x ∈ out.take (t + 1), x.name ≠ nm) := shut (all_take (P := fun x => x.name ≠ nm) hx HT.out hxn)
                clear hx hxn HT
                go_wp2_with fail
                go_roundw
                case rel => exact ⟨t + 1, by go_num, by omega, KL, HT2⟩
                case measure => (simp [intOf]; try omega)
            obtain rfl : t = k := by omega
            have p1 : ¬ (t : Int) < t := by omega
            have HTA := shut (all_of_take (P := fun x => x.name ≠ nm) HK.out HT.out)
            clear HT
            have KL3 := KL
            clear KL
            go_wp2_with fail
            go_loopw [14] (fun s14 wx => ∃ v : Nat, s14 = .int .i64 v ∧ v ≤ m ∧ Keeps Nothing wb wx ∧ Shut (nm ∉ deps.take v ∧ (deps.take v).Nodup)) (fun s14 _ => m - (intOf s14).toNat)
            case atStart => exact ⟨0, rfl, Nat.zero_le _, KL3, shut (by simp)⟩
            case round =>
              obtain ⟨v, rfl, hv, KL, HV⟩ := hrel
              clear KL3
              by_cases hlt4 : v < m
              · have r1 : (v : Int) < m := by omega
                have r0 : (0 : Int) ≤ v := by omega
                obtain ⟨d0, hd0⟩ : ∃ d0, deps[v]? = some d0 := ⟨_, List.getElem?_eq_getElem (by rw [HM.out]; exact hlt4)⟩
                obtain ⟨gd, od, rfl⟩ := HRD.out.head (by intro q; have := congrArg List.length q; rw [List.length_map, HM.out] at this; simp at this; omega)
                have hc0 := HRD.out.cell (j := v) (v := txV d0) (by rw [List.getElem?_map, hd0]; rfl)
                unfold txV at hc0
                have HD0 := shut hd0
                clear hd0
                have KL4 := KL
                clear KL
                go_wp2_with fail
                go_loopw [15] (fun s15 wx => ∃ u : Nat, s15 = .int .i64 u ∧ u ≤ v ∧ Keeps Nothing wb wx ∧ Shut (d0 ∉ deps.take u)) (fun s15 _ => v - (intOf s15).toNat)
                case atStart => exact ⟨0, rfl, Nat.zero_le _, KL4, shut (by simp)⟩
                case round =>
                  obtain ⟨u, rfl, hu, KL, HU⟩ := hrel
                  clear KL4
                  have hc0w := KL.cell hc0 (fun h => h)
                  by_cases hlt5 : u < v
                  · have t1 : (u : Int) < v := by omega
                    have t2 : (u : Int) < m := by omega
                    have t0 : (0 : Int) ≤ u := by omega
                    obtain ⟨d1, hd1⟩ : ∃ d1, deps[u]? = some d1 := ⟨_, List.getElem?_eq_getElem (by rw [HM.out]; omega)⟩
                    have hc1 := (HRD.out.keepsN KL).cell (j := u) (v := txV d1) (by rw [List.getElem?_map, hd1]; rfl)
                    unfold txV at hc1
                    by_cases hdd : d0 = d1
                    · have hdb : (d0 == d1) = true := by rw [beq_iff_eq]; exact hdd
                      have hnd : ¬ deps.Nodup := fun q => by
                        have h1 := HD0.out
                        subst hdd
                        obtain ⟨a1, a2⟩ := List.getElem?_eq_some_iff.1 h1
                        obtain ⟨b1, b2⟩ := List.getElem?_eq_some_iff.1 hd1
                        exact List.pairwise_iff_getElem.1 q u v b1 a1 hlt5 (b2.trans a2.symm)
                      have hz : RR = (23, p, []) := by
                        rw [← HR.out]
                        exact step_bad HNE.out HP.out.2.2 (by unfold stepM; rw [if_pos HH.out, HHD.out]; show (if 64 ≤ out.length ∨ 64 < deps.length then (5 : Int) else if Twice out nm deps then 23 else 0) = 23; rw [if_neg H64.out, if_pos (.inr (.inr hnd))]) (by decide)
                      have HZ := shut hz
                      have KF := shut (keepsHi (KB.trans KL (fun _ h _ => h.elim)))
                      clear hz HP HR hdd hd1 hnd HU HV HD0
                      go_wp2_with fail
                      go_quiet (fail)
                      go_wp2_with fail
                      go_ret3
                      rw [HZ.out]
                      exact ⟨KF.out.drewN _, .inr ⟨by show ¬ (23 : Int) = 0; decide, rfl⟩⟩

                    · have hdb : (d0 == d1) = false := by rw [beq_eq_false_iff_ne]; exact hdd
                      have HU2 : Shut (d0 ∉ deps.take (u + 1)) := shut (by
                        rw [List.take_add_one, hd1]
                        simp only [Option.toList_some, List.mem_append, List.mem_singleton]
                        rintro (q | q)
                        · exact HU.out q
                        · exact hdd q)
                      clear hdd hd1 HU
                      go_wp2_with fail
                      go_quiet (fail)
                      go_wp2_with fail
                      go_roundw
                      case rel => exact ⟨u + 1, by go_num, by omega, KL.drewN _, HU2⟩
                      case measure => (simp [intOf]; try omega)
                  obtain rfl : u = v := by omega
                  have t1 : ¬ (u : Int) < u := by omega
                  by_cases hdn : d0 = nm
                  · have hdb : (d0 == nm) = true := by rw [beq_iff_eq]; exact hdn
                    have hmem : nm ∈ deps := by rw [← hdn]; exact List.mem_of_getElem? HD0.out
                    have hz : RR = (23, p, []) := by
                      rw [← HR.out]
                      exact step_bad HNE.out HP.out.2.2 (by unfold stepM; rw [if_pos HH.out, HHD.out]; show (if 64 ≤ out.length ∨ 64 < deps.length then (5 : Int) else if Twice out nm deps then 23 else 0) = 23; rw [if_neg H64.out, if_pos (.inr (.inl hmem))]) (by decide)
                    have HZ := shut hz
                    have KF := shut (keepsHi (KB.trans KL (fun _ h _ => h.elim)))
                    clear hz HP HR hdn HU HV HD0
                    go_wp2_with fail
                    go_ret3
                    rw [HZ.out]
                    exact ⟨KF.out, .inr ⟨by show ¬ (23 : Int) = 0; decide, rfl⟩⟩

                  · have hdb : (d0 == nm) = false := by rw [beq_eq_false_iff_ne]; exact hdn
                    have HV2 : Shut (nm ∉ deps.take (u + 1) ∧ (deps.take (u + 1)).Nodup) := shut ⟨by
                        rw [List.take_add_one, HD0.out]
                        simp only [Option.toList_some, List.mem_append, List.mem_singleton]
                        rintro (q | q)
                        · exact HV.out.1 q
                        · exact hdn q.symm, nodup_upto HD0.out HV.out.2 HU.out⟩
                    clear hdn HU HV
                    go_wp2_with fail
                    go_roundw
                    case rel => exact ⟨u + 1, by go_num, by omega, KL, HV2⟩
                    case measure => (simp [intOf]; try omega)
              obtain rfl : v = m := by omega
              have r1 : ¬ (v : Int) < v := by omega
              have htw : ¬ Twice out nm deps := by
                rintro (⟨x, h1, h2⟩ | h1 | h1)
                · exact HTA.out x h1 h2
                · have := HV.out.1
                  rw [List.take_of_length_le (Nat.le_of_eq HM.out)] at this
                  exact this h1
                · have := HV.out.2
                  rw [List.take_of_length_le (Nat.le_of_eq HM.out)] at this
                  exact h1 this
              have hst : stepM out (s.drop p) = (0, out ++ [⟨nm, deps, []⟩]) := by
                unfold stepM
                rw [if_pos HH.out, HHD.out]
                show ((if 64 ≤ out.length ∨ 64 < deps.length then (5 : Int) else if Twice out nm deps then 23 else 0), out ++ [(⟨nm, deps, []⟩ : SrcD)]) = _
                rw [if_neg H64.out, if_neg htw]
              have hB := bnd_step HP.out.2.1 (by rw [hst])
              rw [hst, HQ.out] at hB
              have hPR := step_on HNE.out HP.out.2.2 hst
              rw [HQ.out] at hPR
              have HB2 := shut hB
              have HPR2 := shut hPR
              have hdl : ∀ x ∈ deps, x.length ≤ bigN := fun x hx => by
                have h1 := HDA.out
                rw [List.all_eq_true] at h1
                have := isName_len (h1 x hx)
                unfold bigN
                omega
              have HDL := shut hdl
              have kwl := kb.trans KL (fun _ h _ => h)
              have BE := blk_new wr #[] 9
              have ke : Keeps Nothing wr (wr.alloc (.cells #[] 9)) := (Keeps.refl Nothing wr).alloc _
              have RE := shut (rowR_here BE)
              have SRC := shut (((HRD.out.keepsN KL).keepsN ke).srcS (tx := 22) Tryd.underlying22 (n := v) (by rw [List.length_map, HM.out]) cd)
              have hvb : v ≤ 1000000000 := by omega
              clear htw hst hB hPR hdl HV HTA BE
              go_wp2_with (at_builtin; refine wpList_appZ _ rfl (.tmp 142) (.tmp 143) rfl (some ⟨wr.heap.size, 0, none⟩) 0 [] 0 rfl rfl RE.out _ v (deps.map txV) rfl SRC.out (by omega) hvb ?_)
              intro a2 c2 w3 R3 _ k3 m3
              try rw [List.nil_append] at R3
              have k13 : Keeps Nothing wr w3 := ke.trans k3 (fun g hg hlt => by
                have : wr.heap.size = g := by simpa [blockOf] using hg
                omega)
              have BX := blk_new w3 #[.string ⟨nm.toArray⟩, .slice a2 v c2, .string ⟨#[]⟩] 43
              have kx : Keeps Nothing w3 (w3.alloc (.cells #[.string ⟨nm.toArray⟩, .slice a2 v c2, .string ⟨#[]⟩] 43)) := (Keeps.refl Nothing w3).alloc _
              have R4 := R3.keepsN kx
              have hel : SrcIs (strB (w3.alloc (.cells #[.string ⟨nm.toArray⟩, .slice a2 v c2, .string ⟨#[]⟩] 43))) (w3.alloc (.cells #[.string ⟨nm.toArray⟩, .slice a2 v c2, .string ⟨#[]⟩] 43)) ⟨nm, deps, []⟩ [.string ⟨nm.toArray⟩, .slice a2 v c2, .string ⟨#[]⟩] := by
                refine ⟨a2, c2, by rw [HM.out]; rfl, by have := isName_len HNM.out; unfold bigN; show nm.length ≤ _; omega, Nat.zero_le _, ⟨by have := R4.le; rwa [List.length_map] at this, R4.max⟩, rowR_sl R4 (by rw [HM.out]; unfold bigN; omega) HDL.out (fun g hg => rowR_blk R4 hg)⟩
              have HEL := shut hel
              have kall := (kwl.trans k13 (fun _ h _ => h)).trans kx (fun _ h _ => h)
              have hRP := HP.out.1.keepsN kall
              obtain ⟨L, ow, hL, heL⟩ := hRP.row
              have OW := shut ow
              have HLL := shut hL
              have HEE := shut heL
              have HNEW := shut hRP.new
              have KX := K.trans kall (fun _ h _ => h.elim)
              have HSZ : Shut (w.heap.size ≤ (w3.alloc (.cells #[.string ⟨nm.toArray⟩, .slice a2 v c2, .string ⟨#[]⟩] 43)).heap.size) := shut KX.size
              have HBX := shut BX
              have HLK : Shut (L.length = t) := shut (by rw [hL, HK.out])
              have htb : t ≤ 1000000000 := by omega
              clear hel hRP ow hL heL BX R3 R4 k3 m3 kall k13 ke kwl RE SRC HP kb KL HRD KB K
              go_wp2_with (at_builtin; refine wpList_appSrc _ rfl (.tmp 140) (.tmp 146) rfl ao cap L t HLK.out rfl OW.out _ _ [.string ⟨nm.toArray⟩, .slice a2 v c2, .string ⟨#[]⟩] rfl rfl (src_one _ _ _ _ _) rfl HBX.out htb ?_)
              intro a5 c5 w5 O5 k5 m5
              have HP2 : Shut (RP w.heap.size w5 a5 c5 (out ++ [⟨nm, deps, []⟩]) ∧ Bnd (out ++ [⟨nm, deps, []⟩]) q ∧ parseR 0 s [] = parseR q (s.drop q) (out ++ [⟨nm, deps, []⟩])) := shut ⟨RP.push HEE.out HLL.out OW.out HNEW.out HSZ.out HEL.out O5 k5 (by rw [World.size_alloc]; exact m5), HB2.out, HPR2.out⟩
              have HKL : Shut ((out ++ [(⟨nm, deps, []⟩ : SrcD)]).length = t + 1) := shut (by rw [List.length_append, HK.out]; rfl)
              have KS := KX.trans k5 (fun g hg _ => HNEW.out g hg)
              clear O5 k5 m5 KX OW HEE HLL HEL HBX HNEW
              go_wp2_with fail
              go_roundw
              case rel => exact ⟨q, t + 1, a5, c5, _, by go_num, rfl, by omega, by omega, KS, HKL, HP2⟩
              case measure => (simp [intOf]; try omega)

end Go.Proofs.YtiliajnijjkcdaaDoor
