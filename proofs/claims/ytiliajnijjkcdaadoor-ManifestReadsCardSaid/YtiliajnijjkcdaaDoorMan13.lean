/- Package manifest: a head's line. -/
import Derived.Test.YtiliajnijjkcdaaDoorMan12
namespace Go.Proofs.YtiliajnijjkcdaaDoor
open Go.RowKit

attribute [local go_sem ↓] exec_mid_src exec_store_src
attribute [local go_sem] rowOk_new World.setRow_alloc_new aggOk_src

theorem rowR_blk {w : World} {e : TypeId} {ao : Option Addr} {cap : Nat} {vs : List Value} (h : RowR w e ao cap vs) {g : Nat} (hg : blockOf ao = some g) : ∃ cur : Array Value, Blk w g cur e := by
  rcases h.at' with ⟨rfl, _⟩ | ⟨g', o', cur, rfl, hb, _⟩
  · cases hg
  · obtain rfl := Option.some.inj hg
    exact ⟨cur, hb⟩
theorem moved_ge {B N : Nat} {ao ao2 : Option Addr} (mv : Moved B ao ao2) (h : ∀ g, blockOf ao = some g → N ≤ g) (hB : N ≤ B) {g : Nat} (hg : blockOf ao2 = some g) : N ≤ g := by
  rcases mv with mv | ⟨g', mv, hb⟩
  · exact h g (by rw [← mv]; exact hg)
  · rw [mv] at hg
    obtain rfl : g' = g := by simpa using hg
    omega
theorem headW_spec {l : List (List UInt8)} {nm : List UInt8} {deps : List (List UInt8)} (h : headW l = some (nm, deps)) : isName nm = true ∧ (∀ d ∈ deps, isName d = true) ∧ deps.length ≤ l.length := by
  match l, h with
  | [], h => cases h
  | [_], h => cases h
  | [e, n], h =>
    rw [headW_two] at h
    split at h
    · rename_i q
      injection h with h
      injection h with h1 h2
      subst h1 h2
      exact ⟨q.2, by simp, Nat.zero_le _⟩
    · cases h
  | [_, _, _], h => cases h
  | e :: n :: c :: d :: ds, h =>
    rw [headW_many] at h
    split at h
    · rename_i q
      injection h with h
      injection h with h1 h2
      subst h1 h2
      refine ⟨q.2.1, fun x hx => List.all_eq_true.1 q.2.2.2 x hx, by simp only [List.length_cons]; omega⟩
    · cases h

/-- A head's cells, and what is wrong with it. -/
theorem head_cells {w w1 : World} {C : Array Value} {z : Bool} {r : HeadD} (h : HeadIs w w1 r C z) (s : List UInt8) (hr : r = headL s) (hs : s.length ≤ 10000000) {S : Nat → Prop} (l : List SrcD) {ao : Option Addr} (c : Nat) (hl : ∀ W, Keeps Nothing w1 W → SlIs S W 3 (SrcIs S W) ao l) (h64 : l.length ≤ 64) :
    ∃ xn xd xa xc, C = #[.string ⟨(xn : List UInt8).toArray⟩, .slice xa (xd : List (List UInt8)).length xc, .string ⟨#[]⟩] ∧ SrcIs (strB w1) w1 ⟨xn, xd, []⟩ [.string ⟨xn.toArray⟩, .slice xa xd.length xc, .string ⟨#[]⟩] ∧ (r ≠ none → r = some (xn, xd)) ∧
      ∀ W, Keeps Nothing w1 W → Calls Tryd.prog 24 #[.slice ao l.length c, .agg C, .bool z] W fun e w' => e = .returned (.int .i64 (wrongL l r)) ∧ Keeps Nothing W w' := by
  cases r with
  | none =>
    obtain ⟨rfl, rfl⟩ := h
    exact ⟨[], [], none, 0, rfl, ⟨none, 0, rfl, Nat.zero_le _, Nat.zero_le _, ⟨Nat.le_refl _, Nat.zero_le _⟩, slIs_nil _ _ _ _ _⟩, fun q => absurd rfl q, fun W _ => wrong_bad _ _ W⟩
  | some x =>
    obtain ⟨nm, deps⟩ := x
    obtain ⟨rfl, xa, xc, rfl, hR, -⟩ := h
    obtain ⟨i1, i2, i3⟩ := headW_spec (l := blanksL (bareL s)) hr.symm
    have i4 := blanks_len (bareL s)
    have i5 := bareL_len s
    have hsrc : SrcIs (strB w1) w1 ⟨nm, deps, []⟩ [.string ⟨nm.toArray⟩, .slice xa deps.length xc, .string ⟨#[]⟩] := ⟨xa, xc, rfl, by have := isName_len i1; unfold bigN; simp only; omega, Nat.zero_le _, ⟨by have := hR.le; simpa using this, hR.max⟩,
      rowR_sl hR (by show deps.length ≤ bigN; unfold bigN; omega) (fun x hx => by have := isName_len (i2 x hx); unfold bigN; omega) (fun g hg => by obtain ⟨cur, hc⟩ := rowR_blk hR hg; exact ⟨cur, hc⟩)⟩
    refine ⟨nm, deps, xa, xc, rfl, hsrc, fun _ => rfl, fun W hW => ?_⟩
    exact wrong_any l ⟨nm, deps, []⟩ W c _ (hl W hW) (hsrc.keeps hW (fun _ _ h => h) (S' := fun _ => True) (fun _ _ => trivial)) h64

set_option maxRecDepth 100000 in
set_option linter.unusedSimpArgs false in
set_option maxHeartbeats 8000000 in
theorem parse1_head {N : Nat} {w : World} {g1 g2 g3 : Nat} {ao : Option Addr} {cap : Nat} {L : List (List Value)} {at' : Option Addr} {ct : Nat} {T : List TxR} {out : List SrcD} (P : PS N w g1 g3 ao cap L at' ct T out) (hN : N ≤ w.heap.size) (h2 : N ≤ g2) (b2 : Blk w g2 #[.nilIface] 26) (hM : MaxV w)
    (s : List UInt8) (hs : s.length ≤ 10000000) (p : Nat) (hh : isHead s = true) (ho : out.length ≤ 64) :
    Calls Tryd.prog 20 #[.int .i64 (p : Int), .string ⟨(s.take (lineN s)).toArray⟩, .pointer (some ⟨g1, 0, none⟩), .pointer (some ⟨g2, 0, none⟩), .pointer (some ⟨g3, 0, none⟩)] w (StepPost N w g1 g2 g3 p (stepM out s)) := by
  have hst : stepM out s = (wrongL out (headL s), addHead out (headL s)) := by unfold stepM; rw [if_pos hh]
  have htr := fun W => trimSuffix_any (s.take (lineN s)) [10] W (by rw [List.length_take]; omega)
  have hpr := fun W => shPrefix_any (s.take (lineN s)) [61, 61] W
  rw [trim_line] at htr
  rw [head_line, hh] at hpr
  have hbl := bareL_len s
  have hhd := head_any w (bareL s) hM (by omega)
  rw [head_eq, show headW (blanksL (bareL s)) = headL s from rfl] at hhd
  have hwr : wrongL (out.map fun d => (⟨d.name, d.deps, []⟩ : SrcD)) (headL s) = wrongL out (headL s) := by
    cases headL s with
    | none => rfl
    | some x =>
      obtain ⟨nm, deps⟩ := x
      have ht : Twice (out.map fun d => (⟨d.name, d.deps, []⟩ : SrcD)) nm deps ↔ Twice out nm deps := by
        unfold Twice
        refine or_congr ⟨fun ⟨x, hx, e⟩ => ?_, fun ⟨x, hx, e⟩ => ⟨⟨x.name, x.deps, []⟩, List.mem_map.2 ⟨x, hx, rfl⟩, e⟩⟩ Iff.rfl
        obtain ⟨y, hy, rfl⟩ := List.mem_map.1 hx
        exact ⟨y, hy, e⟩
      simp only [wrongL, List.length_map, ht]
  have hcells : ∀ (w1 : World), Keeps Nothing w w1 → ∀ (C : Array Value) (z : Bool), HeadIs w w1 (headL s) C z → ∃ xn xd xa xc, C = #[.string ⟨(xn : List UInt8).toArray⟩, .slice xa (xd : List (List UInt8)).length xc, .string ⟨#[]⟩] ∧ SrcIs (strB w1) w1 ⟨xn, xd, []⟩ [.string ⟨xn.toArray⟩, .slice xa xd.length xc, .string ⟨#[]⟩] ∧ (headL s ≠ none → headL s = some (xn, xd)) ∧
      ∀ W, Keeps Nothing w1 W → Calls Tryd.prog 24 #[.slice ao L.length cap, .agg C, .bool z] W fun e w' => e = .returned (.int .i64 (wrongL out (headL s))) ∧ Keeps Nothing W w' := by
    intro w1 hw C z h
    have := head_cells h s rfl hs (S := fun _ => True) (out.map fun d => ⟨d.name, d.deps, []⟩) (ao := ao) cap (fun W hW => (P.keepsN (hw.trans hW (fun _ h _ => h))).sl (by unfold bigN; omega)) (by rw [List.length_map]; exact ho)
    rw [hwr, List.length_map, ← P.len] at this
    exact this
  rw [hst]
  have HAD : Shut (∀ xn xd, (headL s ≠ none → headL s = some (xn, xd)) → wrongL out (headL s) = 0 → addHead out (headL s) = out ++ [⟨xn, xd, []⟩]) := shut (fun xn xd h1 h3 => by
    have h4 : headL s ≠ none := by intro q; rw [q] at h3; cases h3
    rw [h1 h4]
    rfl)
  generalize s.take (lineN s) = line at *
  generalize bareL s = bare at *
  generalize wrongL out (headL s) = code at *
  generalize addHead out (headL s) = out' at *
  generalize headL s = hd at *
  clear hst hh hwr hM
  have hL := P.len
  have hT := P.tlen
  have PP := shut P
  have c1 := blk_cell P.b1 0 (v := .slice ao L.length cap) rfl
  have hLb : L.length ≤ 1000000000 := by omega
  have hTb : T.length ≤ 1000000000 := by omega
  clear P hL hT ho
  go_enter Tryd.func20, Tryd.ntmps20
  go_wp2_with fail
  refine (htr _).mono ?_
  rintro e w1 ⟨rfl, rfl⟩
  go_wp2_with fail
  refine (hpr _).mono ?_
  rintro e w1 ⟨rfl, rfl⟩
  clear htr hpr
  go_wp2_with fail
  refine hhd.mono ?_
  rintro e w3 ⟨C, z, rfl, k3, hHI⟩
  obtain ⟨xn, xd, xa, xc, rfl, hsrc, hne, hwc⟩ := hcells w3 k3 C z hHI
  have HAD2 : Shut (code = 0 → out' = out ++ [⟨xn, xd, []⟩]) := shut (HAD.out xn xd hne)
  clear hcells hHI hhd hne HAD
  have P3 := shut (PP.out.keepsN k3)
  have kx : Keeps Nothing w3 (w3.alloc (.cells #[.string ⟨xn.toArray⟩, .slice xa xd.length xc, .string ⟨#[]⟩] 43)) := (Keeps.refl Nothing w3).alloc _
  have BX := blk_new w3 #[.string ⟨xn.toArray⟩, .slice xa xd.length xc, .string ⟨#[]⟩] 43
  have c14 := kx.cell (k3.cell c1 (fun h => h)) (fun h => h)
  obtain ⟨y1, y2⟩ := tblk_mid BX (show (#[.string ⟨xn.toArray⟩, .slice xa xd.length xc, .string ⟨#[]⟩] : Array Value).size = 3 from rfl)
  have hw4 := hwc _ kx
  have hsz3 := k3.size
  have noB : ∀ g, blockOf ao = some g → g < w3.heap.size := fun g hg => P3.out.own.lt hg
  have PX := shut (P3.out.keepsN kx)
  have b2x := kx.blk (k3.blk b2 (fun h => h)) (fun h => h)
  have hsrc4 := shut (hsrc.keeps kx (fun _ _ h => h) (S' := strB (w3.alloc (.cells #[.string ⟨xn.toArray⟩, .slice xa xd.length xc, .string ⟨#[]⟩] 43))) (strB_keeps kx (fun _ _ h => h)))
  have kW4 := shut (k3.trans kx (fun _ h _ => h))
  clear hwc c1 P3 hsrc PP
  go_upto_region 4 with fail
  have hgx : w1.heap.size ≤ w3.heap.size := hsz3
  have hao1 : blockOf ao ≠ some w3.heap.size := fun q => absurd (noB _ q) (Nat.lt_irrefl _)
  clear hsz3 noB
  generalize w3.heap.size = gb at *
  generalize w3.alloc (.cells #[.string ⟨xn.toArray⟩, .slice xa xd.length xc, .string ⟨#[]⟩] 43) = w4 at *
  go_wp2_with fail
  refine hw4.mono ?_
  rintro e w5 ⟨rfl, k5⟩
  clear hw4
  have hnw := new_code code (p : Int) w5
  have P5 := shut (PX.out.keepsN k5)
  have b25 := k5.blk b2x (fun h => h)
  have B5 := k5.blk BX (fun h => h)
  have hsrc5 := shut (hsrc4.out.keeps k5 (fun _ _ h => h) (S' := strB w5) (strB_keeps k5 (fun _ _ h => h)))
  have kW5 := shut (kW4.out.trans k5 (fun _ h _ => h))
  clear PX b2x y1 y2 c14 BX hsrc4 k5 kW4
  go_wp2_with fail
  refine hnw.mono ?_
  rintro e w6 ⟨ev, rfl, k6, hev⟩
  clear hnw
  have b26 := k6.blk b25 (fun h => h)
  have c26 := blk_cell b26 0 (v := .nilIface) rfl
  have f26 := blk_free b26 0
  have h15 := lt_of_block P5.out.b1
  have h35 := lt_of_block P5.out.b3
  have h25 := lt_of_block b25
  have P6 := shut (P5.out.keepsN k6)
  have B6 := k6.blk B5 (fun h => h)
  have hsrc6 := shut (hsrc5.out.keeps k6 (fun _ _ h => h) (S' := strB w6) (strB_keeps k6 (fun _ _ h => h)))
  have kW6 := shut (kW5.out.trans k6 (fun _ h _ => h))
  have n12 : g1 ≠ g2 := fun q => by subst q; exact absurd (blk_unlike P6.out.b1 b26) (by decide)
  have n32 : g3 ≠ g2 := fun q => by subst q; exact absurd (blk_unlike P6.out.b3 b26) (by decide)
  have nb2 : gb ≠ g2 := fun q => by subst q; exact absurd (blk_unlike B6 b26) (by decide)
  have no2 : blockOf ao ≠ some g2 := P6.out.own.ne b26 (by decide)
  have nt2 : blockOf at' ≠ some g2 := P6.out.row.ne b26 (by decide)
  have noL : ∀ g, blockOf ao = some g → g < w5.heap.size := fun g hg => P5.out.own.lt hg
  have ntL : ∀ g, blockOf at' = some g → g < w5.heap.size := fun g hg => P5.out.row.lt hg
  have hN5 : N ≤ w5.heap.size := by have := kW5.out.size; omega
  rcases hev with ⟨hc0, rfl⟩ | ⟨hc0, ⟨be, rfl⟩, hE⟩
  · have hout := HAD2.out hc0
    subst hout
    subst hc0
    clear HAD2
    have kS : Keeps (fun b => b = g2) w6 (w6.setCell ⟨g2, 0, none⟩ .nilIface) := (Keeps.refl (fun b => b = g2) w6).setCell (p := ⟨g2, 0, none⟩) (fun _ => rfl) _
    have ns2 : ∀ g, strB w6 g → ¬ g = g2 := fun g ⟨cs, hc⟩ q => by subst q; exact absurd (blk_unlike hc b26) (by decide)
    have PR := shut (P6.out.keeps kS n12 n32 (fun g hg q => by subst q; exact no2 hg) (fun g hg q => by subst q; exact nt2 hg) ns2 (fun x hx g hg q => by
      subst q
      obtain ⟨cur, hc⟩ := own8_not (P6.out.owns x hx).1 hg
      exact absurd (blk_unlike hc b26) (by decide)))
    have BR := kS.blk B6 nb2
    have b2R := blk_set b26 0 .nilIface
    have hsrcR := shut (hsrc6.out.keeps kS ns2 (S' := strB (w6.setCell ⟨g2, 0, none⟩ .nilIface)) (strB_keeps kS ns2))
    have hszR : w5.heap.size ≤ (w6.setCell ⟨g2, 0, none⟩ .nilIface).heap.size := by rw [World.size_setCell]; exact k6.size
    have kWR := shut (kW6.out.mono (S' := fun b => N ≤ b) (fun _ h _ => h.elim) |>.trans kS (fun i hi _ => by have hi' : i = g2 := hi; rw [hi']; exact h2))
    have kER := shut kS
    clear P6 P5 B6 B5 hsrc6 hsrc5 kW6 kW5 k6 ns2 kS
    go_upto_region 5 with fail
    any_goals try (rename_i hfz; simp [f26] at hfz; done)
    clear c26 f26 b26 b25
    generalize w6.setCell ⟨g2, 0, none⟩ .nilIface = wx at *
    have kdr : Keeps Nothing wx wx.drew := (Keeps.refl Nothing wx).drew
    have hc1R := kdr.cell (blk_cell PR.out.b1 0 (v := .slice ao L.length cap) rfl) (fun h => h)
    have hOR := PR.out.own.keepsN kdr
    have hRR := PR.out.row.keepsN kdr
    have hao2 := PR.out.own3
    have hat1 := PR.out.row1
    have hat2 := PR.out.row3
    have hnewo := PR.out.newo
    have hnewt := PR.out.newt
    have hNx : N ≤ wx.heap.size := by have := kWR.out.size; omega
    refine wp_region_mixG (fun V => Blk V gb #[.string ⟨xn.toArray⟩, .slice xa xd.length xc, .string ⟨#[]⟩] 43 ∧ Blk V g3 #[.slice at' T.length ct] 53) 8 (.take 1 (.take 4 (.grp [0, 2, 3, 5, 6] [[(0, 0), (0, 1), (0, 3)], [(1, 1), (1, 3), (2, 0), (2, 3), (8, 0), (8, 1)], [(3, 2), (3, 3), (9, 1), (10, 0)], [(7, 3), (11, 2)], [(15, 4)]] (.one 7 (.one 8 .done))))) (by kernel_rfl) (by kernel_rfl) ⟨BR, PR.out.b3⟩ ?_
    simp only [itemsG, PlanG.map, List.map_cons, List.map_nil, List.getD_cons_zero, List.getD_cons_succ, Nat.reduceBEq]
    refine wpMixG_yield (v := .agg #[.string ⟨xn.toArray⟩, .slice xa xd.length xc, .string ⟨#[]⟩]) (fun W hW => ?_) (fun K hK => ?_)
    · obtain ⟨y1, y2⟩ := tblk_mid hW.1 (show (#[.string ⟨xn.toArray⟩, .slice xa xd.length xc, .string ⟨#[]⟩] : Array Value).size = 3 from rfl)
      go_simp
    go_simp
    refine hK _ ?_
    clear hK K
    refine wpMixG_yield (v := .slice at' T.length ct) (fun W hW => ?_) (fun K hK => ?_)
    · have y1 := blk_cell hW.2 0 (v := .slice at' T.length ct) rfl
      go_simp
    go_simp
    refine hK _ ?_
    clear hK K
    refine wpMixG_grp (fun a0 m a V => match m with | 0 => a = a0 ∧ (Keeps (fun b => blockOf ao = some b ∨ blockOf at' = some b) wx V) ∧ (V.cell? ⟨g1, 0, none⟩ = some (.slice ao L.length cap)) ∧ (OwnC V 43 3 ao cap L) ∧ (RowR V 59 at' ct (T.map txRowV)) | 1 => a = (a0.put (some 27) (.slice ao L.length cap)) ∧ (Keeps (fun b => blockOf ao = some b ∨ blockOf at' = some b) wx V) ∧ (OwnC V 43 3 ao cap L) ∧ (RowR V 59 at' ct (T.map txRowV)) | 2 => ∃ (gx : Nat), a = (a0.put (some 29) (.slice (some ⟨gx, 0, none⟩) 1 1)) ∧ (Keeps (fun b => blockOf ao = some b ∨ blockOf at' = some b) wx V) ∧ (V.cell? ⟨g1, 0, none⟩ = some (.slice ao L.length cap)) ∧ (OwnC V 43 3 ao cap L) ∧ (RowR V 59 at' ct (T.map txRowV)) ∧ (Blk V gx #[.string ⟨xn.toArray⟩, .slice xa xd.length xc, .string ⟨#[]⟩] 43) | 3 => ∃ (gx : Nat), a = ((a0.put (some 27) (.slice ao L.length cap)).put (some 29) (.slice (some ⟨gx, 0, none⟩) 1 1)) ∧ (Keeps (fun b => blockOf ao = some b ∨ blockOf at' = some b) wx V) ∧ (OwnC V 43 3 ao cap L) ∧ (RowR V 59 at' ct (T.map txRowV)) ∧ (Blk V gx #[.string ⟨xn.toArray⟩, .slice xa xd.length xc, .string ⟨#[]⟩] 43) | 7 => ∃ (gx : Nat) (ao2 : Option Addr) (cap2 : Nat), a = (((a0.put (some 27) (.slice ao L.length cap)).put (some 29) (.slice (some ⟨gx, 0, none⟩) 1 1)).put (some 30) (.slice ao2 (L.length + 1) cap2)) ∧ (Keeps (fun b => blockOf ao = some b ∨ blockOf at' = some b) wx V) ∧ (RowR V 59 at' ct (T.map txRowV)) ∧ (OwnC V 43 3 ao2 cap2 (L ++ [[.string ⟨xn.toArray⟩, .slice xa xd.length xc, .string ⟨#[]⟩]])) ∧ (∀ g, blockOf ao2 = some g → N ≤ g) | 8 => ∃ (gy : Nat), a = (a0.put (some 32) (.slice (some ⟨gy, 0, none⟩) 1 1)) ∧ (Keeps (fun b => blockOf ao = some b ∨ blockOf at' = some b) wx V) ∧ (V.cell? ⟨g1, 0, none⟩ = some (.slice ao L.length cap)) ∧ (OwnC V 43 3 ao cap L) ∧ (RowR V 59 at' ct (T.map txRowV)) ∧ (Blk V gy #[.slice none 0 0] 59) | 9 => ∃ (gy : Nat), a = ((a0.put (some 27) (.slice ao L.length cap)).put (some 32) (.slice (some ⟨gy, 0, none⟩) 1 1)) ∧ (Keeps (fun b => blockOf ao = some b ∨ blockOf at' = some b) wx V) ∧ (OwnC V 43 3 ao cap L) ∧ (RowR V 59 at' ct (T.map txRowV)) ∧ (Blk V gy #[.slice none 0 0] 59) | 10 => ∃ (gx : Nat) (gy : Nat), a = ((a0.put (some 29) (.slice (some ⟨gx, 0, none⟩) 1 1)).put (some 32) (.slice (some ⟨gy, 0, none⟩) 1 1)) ∧ (Keeps (fun b => blockOf ao = some b ∨ blockOf at' = some b) wx V) ∧ (V.cell? ⟨g1, 0, none⟩ = some (.slice ao L.length cap)) ∧ (OwnC V 43 3 ao cap L) ∧ (RowR V 59 at' ct (T.map txRowV)) ∧ (Blk V gx #[.string ⟨xn.toArray⟩, .slice xa xd.length xc, .string ⟨#[]⟩] 43) ∧ (Blk V gy #[.slice none 0 0] 59) | 11 => ∃ (gx : Nat) (gy : Nat), a = (((a0.put (some 27) (.slice ao L.length cap)).put (some 29) (.slice (some ⟨gx, 0, none⟩) 1 1)).put (some 32) (.slice (some ⟨gy, 0, none⟩) 1 1)) ∧ (Keeps (fun b => blockOf ao = some b ∨ blockOf at' = some b) wx V) ∧ (OwnC V 43 3 ao cap L) ∧ (RowR V 59 at' ct (T.map txRowV)) ∧ (Blk V gx #[.string ⟨xn.toArray⟩, .slice xa xd.length xc, .string ⟨#[]⟩] 43) ∧ (Blk V gy #[.slice none 0 0] 59) | 15 => ∃ (gx : Nat) (gy : Nat) (ao2 : Option Addr) (cap2 : Nat), a = ((((a0.put (some 27) (.slice ao L.length cap)).put (some 29) (.slice (some ⟨gx, 0, none⟩) 1 1)).put (some 30) (.slice ao2 (L.length + 1) cap2)).put (some 32) (.slice (some ⟨gy, 0, none⟩) 1 1)) ∧ (Keeps (fun b => blockOf ao = some b ∨ blockOf at' = some b) wx V) ∧ (RowR V 59 at' ct (T.map txRowV)) ∧ (Blk V gy #[.slice none 0 0] 59) ∧ (OwnC V 43 3 ao2 cap2 (L ++ [[.string ⟨xn.toArray⟩, .slice xa xd.length xc, .string ⟨#[]⟩]])) ∧ (∀ g, blockOf ao2 = some g → N ≤ g) | _ => ∃ (gx : Nat) (gy : Nat) (ao2 : Option Addr) (cap2 : Nat) (at2 : Option Addr) (ct2 : Nat), a = (((((a0.put (some 27) (.slice ao L.length cap)).put (some 29) (.slice (some ⟨gx, 0, none⟩) 1 1)).put (some 30) (.slice ao2 (L.length + 1) cap2)).put (some 32) (.slice (some ⟨gy, 0, none⟩) 1 1)).put (some 33) (.slice at2 (T.length + 1) ct2)) ∧ (Keeps (fun b => blockOf ao = some b ∨ blockOf at' = some b) wx V) ∧ (OwnC V 43 3 ao2 cap2 (L ++ [[.string ⟨xn.toArray⟩, .slice xa xd.length xc, .string ⟨#[]⟩]])) ∧ (∀ g, blockOf ao2 = some g → N ≤ g) ∧ (RowR V 59 at2 ct2 (T.map txRowV ++ [.slice none 0 0])) ∧ (∀ g, blockOf at2 = some g → N ≤ g)) ⟨rfl, (Keeps.refl _ _).drew, hc1R, hOR, hRR⟩ (fun K hK => ⟨?_, ?_, ?_, ?_, ?_, ?_, ?_, ?_, ?_, ?_, ?_, ?_, ?_, ?_, ?_, ?_, trivial⟩) ?_
    · intro a' V hS hI
      obtain ⟨rfl, hK0, hc0, hO, hR⟩ := hI
      go_wp2_with fail
      refine hK 1 _ _ hS ?_
      exact ⟨rfl, hK0, hO, hR⟩
    · intro a' V hS hI
      obtain ⟨rfl, hK0, hc0, hO, hR⟩ := hI
      have ka : Keeps Nothing V (V.alloc (.cells #[.string ⟨xn.toArray⟩, .slice xa xd.length xc, .string ⟨#[]⟩] 43)) := (Keeps.refl Nothing V).alloc _
      go_wp2_with fail
      refine hK 2 _ _ ⟨ka.blk hS.1 (fun h => h), ka.blk hS.2 (fun h => h)⟩ ?_
      exact ⟨V.heap.size, rfl, hK0.trans ka (fun _ h _ => h.elim), ka.cell hc0 (fun h => h), hO.keepsN ka, hR.keepsN ka, blk_new V _ _⟩
    · intro a' V hS hI
      obtain ⟨rfl, hK0, hc0, hO, hR⟩ := hI
      have ka : Keeps Nothing V (V.alloc (.cells #[.slice none 0 0] 59)) := (Keeps.refl Nothing V).alloc _
      go_wp2_with fail
      refine hK 8 _ _ ⟨ka.blk hS.1 (fun h => h), ka.blk hS.2 (fun h => h)⟩ ?_
      exact ⟨V.heap.size, rfl, hK0.trans ka (fun _ h _ => h.elim), ka.cell hc0 (fun h => h), hO.keepsN ka, hR.keepsN ka, blk_new V _ _⟩
    · intro a' V hS hI
      obtain ⟨rfl, hK0, hO, hR⟩ := hI
      have ka : Keeps Nothing V (V.alloc (.cells #[.string ⟨xn.toArray⟩, .slice xa xd.length xc, .string ⟨#[]⟩] 43)) := (Keeps.refl Nothing V).alloc _
      go_wp2_with fail
      refine hK 3 _ _ ⟨ka.blk hS.1 (fun h => h), ka.blk hS.2 (fun h => h)⟩ ?_
      exact ⟨V.heap.size, rfl, hK0.trans ka (fun _ h _ => h.elim), hO.keepsN ka, hR.keepsN ka, blk_new V _ _⟩
    · intro a' V hS hI
      obtain ⟨rfl, hK0, hO, hR⟩ := hI
      have ka : Keeps Nothing V (V.alloc (.cells #[.slice none 0 0] 59)) := (Keeps.refl Nothing V).alloc _
      go_wp2_with fail
      refine hK 9 _ _ ⟨ka.blk hS.1 (fun h => h), ka.blk hS.2 (fun h => h)⟩ ?_
      exact ⟨V.heap.size, rfl, hK0.trans ka (fun _ h _ => h.elim), hO.keepsN ka, hR.keepsN ka, blk_new V _ _⟩
    · intro a' V hS hI
      obtain ⟨gx, rfl, hK0, hc0, hO, hR, hX1⟩ := hI
      go_wp2_with fail
      refine hK 3 _ _ hS ?_
      exact ⟨gx, rfl, hK0, hO, hR, hX1⟩
    · intro a' V hS hI
      obtain ⟨gx, rfl, hK0, hc0, hO, hR, hX1⟩ := hI
      have ka : Keeps Nothing V (V.alloc (.cells #[.slice none 0 0] 59)) := (Keeps.refl Nothing V).alloc _
      go_wp2_with fail
      refine hK 10 _ _ ⟨ka.blk hS.1 (fun h => h), ka.blk hS.2 (fun h => h)⟩ ?_
      exact ⟨gx, V.heap.size, rfl, hK0.trans ka (fun _ h _ => h.elim), ka.cell hc0 (fun h => h), hO.keepsN ka, hR.keepsN ka, ka.blk hX1 (fun h => h), blk_new V _ _⟩
    · intro a' V hS hI
      obtain ⟨gy, rfl, hK0, hc0, hO, hR, hX2⟩ := hI
      go_wp2_with fail
      refine hK 9 _ _ hS ?_
      exact ⟨gy, rfl, hK0, hO, hR, hX2⟩
    · intro a' V hS hI
      obtain ⟨gy, rfl, hK0, hc0, hO, hR, hX2⟩ := hI
      have ka : Keeps Nothing V (V.alloc (.cells #[.string ⟨xn.toArray⟩, .slice xa xd.length xc, .string ⟨#[]⟩] 43)) := (Keeps.refl Nothing V).alloc _
      go_wp2_with fail
      refine hK 10 _ _ ⟨ka.blk hS.1 (fun h => h), ka.blk hS.2 (fun h => h)⟩ ?_
      exact ⟨V.heap.size, gy, rfl, hK0.trans ka (fun _ h _ => h.elim), ka.cell hc0 (fun h => h), hO.keepsN ka, hR.keepsN ka, blk_new V _ _, ka.blk hX2 (fun h => h)⟩
    · intro a' V hS hI
      obtain ⟨gx, rfl, hK0, hO, hR, hX1⟩ := hI
      refine wpList_appSrc _ rfl (.tmp 27) (.tmp 29) rfl ao cap L L.length rfl rfl hO gx _ [.string ⟨xn.toArray⟩, .slice xa xd.length xc, .string ⟨#[]⟩] rfl rfl (src_one _ _ _ _ _) rfl hX1 hLb ?_
      intro ao2 cap2 V2 O2 k2 mv
      have ka : Keeps (fun b => blockOf ao = some b ∨ blockOf at' = some b) V V2 := k2.mono (fun _ h _ => .inl h)
      have hsz := hK0.size
      go_wp2_with fail
      refine hK 7 _ _ ⟨k2.blk hS.1 hao1, k2.blk hS.2 hao2⟩ ?_
      exact ⟨gx, ao2, cap2, rfl, hK0.trans ka (fun _ h _ => h), hR.keeps k2 (fun g hg q => by obtain ⟨cur, hc⟩ := rowR_blk hR hg; exact hO.ne hc (by decide) q), O2, fun g hg => moved_ge mv hnewo (by omega) hg⟩
    · intro a' V hS hI
      obtain ⟨gx, rfl, hK0, hO, hR, hX1⟩ := hI
      have ka : Keeps Nothing V (V.alloc (.cells #[.slice none 0 0] 59)) := (Keeps.refl Nothing V).alloc _
      go_wp2_with fail
      refine hK 11 _ _ ⟨ka.blk hS.1 (fun h => h), ka.blk hS.2 (fun h => h)⟩ ?_
      exact ⟨gx, V.heap.size, rfl, hK0.trans ka (fun _ h _ => h.elim), hO.keepsN ka, hR.keepsN ka, ka.blk hX1 (fun h => h), blk_new V _ _⟩
    · intro a' V hS hI
      obtain ⟨gy, rfl, hK0, hO, hR, hX2⟩ := hI
      have ka : Keeps Nothing V (V.alloc (.cells #[.string ⟨xn.toArray⟩, .slice xa xd.length xc, .string ⟨#[]⟩] 43)) := (Keeps.refl Nothing V).alloc _
      go_wp2_with fail
      refine hK 11 _ _ ⟨ka.blk hS.1 (fun h => h), ka.blk hS.2 (fun h => h)⟩ ?_
      exact ⟨V.heap.size, gy, rfl, hK0.trans ka (fun _ h _ => h.elim), hO.keepsN ka, hR.keepsN ka, blk_new V _ _, ka.blk hX2 (fun h => h)⟩
    · intro a' V hS hI
      obtain ⟨gx, gy, rfl, hK0, hc0, hO, hR, hX1, hX2⟩ := hI
      go_wp2_with fail
      refine hK 11 _ _ hS ?_
      exact ⟨gx, gy, rfl, hK0, hO, hR, hX1, hX2⟩
    · intro a' V hS hI
      obtain ⟨gx, ao2, cap2, rfl, hK0, hR, hO2, hn2⟩ := hI
      have ka : Keeps Nothing V (V.alloc (.cells #[.slice none 0 0] 59)) := (Keeps.refl Nothing V).alloc _
      go_wp2_with fail
      refine hK 15 _ _ ⟨ka.blk hS.1 (fun h => h), ka.blk hS.2 (fun h => h)⟩ ?_
      exact ⟨gx, V.heap.size, ao2, cap2, rfl, hK0.trans ka (fun _ h _ => h.elim), hR.keepsN ka, blk_new V _ _, hO2.keepsN ka, hn2⟩
    · intro a' V hS hI
      obtain ⟨gx, gy, rfl, hK0, hO, hR, hX1, hX2⟩ := hI
      refine wpList_appSrc _ rfl (.tmp 27) (.tmp 29) rfl ao cap L L.length rfl rfl hO gx _ [.string ⟨xn.toArray⟩, .slice xa xd.length xc, .string ⟨#[]⟩] rfl rfl (src_one _ _ _ _ _) rfl hX1 hLb ?_
      intro ao2 cap2 V2 O2 k2 mv
      have ka : Keeps (fun b => blockOf ao = some b ∨ blockOf at' = some b) V V2 := k2.mono (fun _ h _ => .inl h)
      have hsz := hK0.size
      go_wp2_with fail
      refine hK 15 _ _ ⟨k2.blk hS.1 hao1, k2.blk hS.2 hao2⟩ ?_
      exact ⟨gx, gy, ao2, cap2, rfl, hK0.trans ka (fun _ h _ => h), hR.keeps k2 (fun g hg q => by obtain ⟨cur, hc⟩ := rowR_blk hR hg; exact hO.ne hc (by decide) q), k2.blk hX2 (hO.ne hX2 (by decide)), O2, fun g hg => moved_ge mv hnewo (by omega) hg⟩
    · intro a' V hS hI
      obtain ⟨gx, gy, ao2, cap2, rfl, hK0, hR, hX2, hO2, hn2⟩ := hI
      refine wpList_appB _ rfl (.tmp 31) (.tmp 32) rfl at' ct (T.map txRowV) T.length (by rw [List.length_map]) rfl hR gy (.slice none 0 0) rfl rfl hX2 hTb ?_
      intro at2 ct2 V2 R2 k2 mv
      have ka : Keeps (fun b => blockOf ao = some b ∨ blockOf at' = some b) V V2 := k2.mono (fun _ h _ => .inr h)
      have hsz := hK0.size
      go_wp2_with fail
      refine hK 31 _ _ ⟨k2.blk hS.1 (hR.ne hS.1 (by decide)), k2.blk hS.2 hat2⟩ ?_
      exact ⟨gx, gy, ao2, cap2, at2, ct2, rfl, hK0.trans ka (fun _ h _ => h), hO2.keeps k2 (fun g hg q => by obtain ⟨cur, hc⟩ := rowR_blk hR q; exact hO2.ne hc (by decide) hg), hn2, R2, fun g hg => moved_ge mv hnewt (by omega) hg⟩
    intro a' V hS hI
    obtain ⟨gx, gy, ao2, cap2, at2, ct2, rfl, hK0, hO2, hn2, hR2, hn3⟩ := hI
    have b1V := hK0.blk PR.out.b1 (fun q => by rcases q with q | q; exact PR.out.own1 q; exact hat1 q)
    have b3V := hS.2
    have c1V := blk_cell b1V 0 (v := .slice ao L.length cap) rfl
    have f1V := blk_free b1V 0
    have PF := PR.out.push hK0 hO2 hn2 hR2 hn3 hsrcR.out
    have b2V : Blk V g2 #[.nilIface] 26 := hK0.blk (show Blk wx g2 #[.nilIface] 26 from b2R) (fun q => by rcases q with q | q; exact no2 q; exact nt2 q)
    have n13 := PR.out.ne13
    have b3V1 := blk_other b3V ⟨g1, 0, none⟩ (fun e => n13 e.symm) (.slice ao2 (L.length + 1) cap2)
    have c3V1 := blk_cell b3V1 0 (v := .slice at' T.length ct) rfl
    have f3V1 := blk_free b3V1 0
    have nb1 : gb ≠ g1 := fun q => by subst q; exact absurd (blk_unlike hS.1 b1V) (by decide)
    have BV1 := blk_other hS.1 ⟨g1, 0, none⟩ nb1 (.slice ao2 (L.length + 1) cap2)
    have k1 : Keeps (fun b => b = g1 ∨ b = g3) V ((V.setCell ⟨g1, 0, none⟩ (.slice ao2 (L.length + 1) cap2)).setCell ⟨g3, 0, none⟩ (.slice at2 (T.length + 1) ct2)) :=
      ((Keeps.refl (fun b => b = g1 ∨ b = g3) V).setCell (p := ⟨g1, 0, none⟩) (fun _ => .inl rfl) _).setCell (p := ⟨g3, 0, none⟩) (fun _ => .inr rfl) _
    have b2F := k1.blk b2V (fun q => by rcases q with q | q; exact n12 q.symm; exact n32 q.symm)
    have c2F := blk_cell b2F 0 (v := .nilIface) rfl
    have hlow := shut ((kWR.out.trans hK0 (fun g hg _ => by rcases hg with hg | hg; exact hnewo g hg; exact hnewt g hg)).trans k1 (fun g hg _ => by rcases hg with hg | hg; rw [hg]; exact PR.out.lo1; rw [hg]; exact PR.out.lo3))
    have PF := shut PF
    clear hK0 hO2 hR2 hS b1V b3V b2V BR hc1R hOR hRR kdr PR hsrcR kWR
    refine wpMixG_one (fun K hK => ?_)
    go_wp2_with fail
    any_goals try (rename_i hfz; simp [f1V] at hfz; done)
    refine hK _ _ (.inr ⟨BV1, b3V1⟩) ?_
    clear hK K BV1 b3V1 c1V f1V
    refine wpMixG_one (fun K hK => ?_)
    go_wp2_with fail
    any_goals try (rename_i hfz; simp [f3V1] at hfz; done)
    refine hK _ _ (.inl trivial) ?_
    clear hK K
    refine wpMixG_done ?_
    go_wp2_with fail
    go_ret
    exact ⟨hlow.out, true, rfl, (fun _ => ⟨rfl, ⟨⟨_, _, _, _, _, _, PF.out⟩, b2F⟩⟩), (fun q => by cases q)⟩
  · have hE := shut hE
    have HC0 := shut hc0
    clear hc0 HAD2
    have kS : Keeps (fun b => b = g2) w6 (w6.setCell ⟨g2, 0, none⟩ (.iface 78 (.pointer (some ⟨be, 0, none⟩)))) := (Keeps.refl (fun b => b = g2) w6).setCell (p := ⟨g2, 0, none⟩) (fun _ => rfl) _
    have ns2 : ∀ g, strB w6 g → ¬ g = g2 := fun g ⟨cs, hc⟩ q => by subst q; exact absurd (blk_unlike hc b26) (by decide)
    have PR := shut (P6.out.keeps kS n12 n32 (fun g hg q => by subst q; exact no2 hg) (fun g hg q => by subst q; exact nt2 hg) ns2 (fun x hx g hg q => by
      subst q
      obtain ⟨cur, hc⟩ := own8_not (P6.out.owns x hx).1 hg
      exact absurd (blk_unlike hc b26) (by decide)))
    have BR := kS.blk B6 nb2
    have b2R := blk_set b26 0 (.iface 78 (.pointer (some ⟨be, 0, none⟩)))
    have hsrcR := shut (hsrc6.out.keeps kS ns2 (S' := strB (w6.setCell ⟨g2, 0, none⟩ (.iface 78 (.pointer (some ⟨be, 0, none⟩))))) (strB_keeps kS ns2))
    have hszR : w5.heap.size ≤ (w6.setCell ⟨g2, 0, none⟩ (.iface 78 (.pointer (some ⟨be, 0, none⟩)))).heap.size := by rw [World.size_setCell]; exact k6.size
    have kWR := shut (kW6.out.mono (S' := fun b => N ≤ b) (fun _ h _ => h.elim) |>.trans kS (fun i hi _ => by have hi' : i = g2 := hi; rw [hi']; exact h2))
    have kER := shut kS
    clear P6 P5 B6 B5 hsrc6 hsrc5 kW6 kW5 k6 ns2 kS
    go_upto_region 5 with fail
    any_goals try (rename_i hfz; simp [f26] at hfz; done)
    clear c26 f26 b26 b25
    generalize w6.setCell ⟨g2, 0, none⟩ (.iface 78 (.pointer (some ⟨be, 0, none⟩))) = wx at *
    have kdr : Keeps Nothing wx wx.drew := (Keeps.refl Nothing wx).drew
    have hc1R := kdr.cell (blk_cell PR.out.b1 0 (v := .slice ao L.length cap) rfl) (fun h => h)
    have hOR := PR.out.own.keepsN kdr
    have hRR := PR.out.row.keepsN kdr
    have hao2 := PR.out.own3
    have hat1 := PR.out.row1
    have hat2 := PR.out.row3
    have hnewo := PR.out.newo
    have hnewt := PR.out.newt
    have hNx : N ≤ wx.heap.size := by have := kWR.out.size; omega
    refine wp_region_mixG (fun V => Blk V gb #[.string ⟨xn.toArray⟩, .slice xa xd.length xc, .string ⟨#[]⟩] 43 ∧ Blk V g3 #[.slice at' T.length ct] 53) 8 (.take 1 (.take 4 (.grp [0, 2, 3, 5, 6] [[(0, 0), (0, 1), (0, 3)], [(1, 1), (1, 3), (2, 0), (2, 3), (8, 0), (8, 1)], [(3, 2), (3, 3), (9, 1), (10, 0)], [(7, 3), (11, 2)], [(15, 4)]] (.one 7 (.one 8 .done))))) (by kernel_rfl) (by kernel_rfl) ⟨BR, PR.out.b3⟩ ?_
    simp only [itemsG, PlanG.map, List.map_cons, List.map_nil, List.getD_cons_zero, List.getD_cons_succ, Nat.reduceBEq]
    refine wpMixG_yield (v := .agg #[.string ⟨xn.toArray⟩, .slice xa xd.length xc, .string ⟨#[]⟩]) (fun W hW => ?_) (fun K hK => ?_)
    · obtain ⟨y1, y2⟩ := tblk_mid hW.1 (show (#[.string ⟨xn.toArray⟩, .slice xa xd.length xc, .string ⟨#[]⟩] : Array Value).size = 3 from rfl)
      go_simp
    go_simp
    refine hK _ ?_
    clear hK K
    refine wpMixG_yield (v := .slice at' T.length ct) (fun W hW => ?_) (fun K hK => ?_)
    · have y1 := blk_cell hW.2 0 (v := .slice at' T.length ct) rfl
      go_simp
    go_simp
    refine hK _ ?_
    clear hK K
    refine wpMixG_grp (fun a0 m a V => match m with | 0 => a = a0 ∧ (Keeps (fun b => blockOf ao = some b ∨ blockOf at' = some b) wx V) ∧ (V.cell? ⟨g1, 0, none⟩ = some (.slice ao L.length cap)) ∧ (OwnC V 43 3 ao cap L) ∧ (RowR V 59 at' ct (T.map txRowV)) | 1 => a = (a0.put (some 27) (.slice ao L.length cap)) ∧ (Keeps (fun b => blockOf ao = some b ∨ blockOf at' = some b) wx V) ∧ (OwnC V 43 3 ao cap L) ∧ (RowR V 59 at' ct (T.map txRowV)) | 2 => ∃ (gx : Nat), a = (a0.put (some 29) (.slice (some ⟨gx, 0, none⟩) 1 1)) ∧ (Keeps (fun b => blockOf ao = some b ∨ blockOf at' = some b) wx V) ∧ (V.cell? ⟨g1, 0, none⟩ = some (.slice ao L.length cap)) ∧ (OwnC V 43 3 ao cap L) ∧ (RowR V 59 at' ct (T.map txRowV)) ∧ (Blk V gx #[.string ⟨xn.toArray⟩, .slice xa xd.length xc, .string ⟨#[]⟩] 43) | 3 => ∃ (gx : Nat), a = ((a0.put (some 27) (.slice ao L.length cap)).put (some 29) (.slice (some ⟨gx, 0, none⟩) 1 1)) ∧ (Keeps (fun b => blockOf ao = some b ∨ blockOf at' = some b) wx V) ∧ (OwnC V 43 3 ao cap L) ∧ (RowR V 59 at' ct (T.map txRowV)) ∧ (Blk V gx #[.string ⟨xn.toArray⟩, .slice xa xd.length xc, .string ⟨#[]⟩] 43) | 7 => ∃ (gx : Nat) (ao2 : Option Addr) (cap2 : Nat), a = (((a0.put (some 27) (.slice ao L.length cap)).put (some 29) (.slice (some ⟨gx, 0, none⟩) 1 1)).put (some 30) (.slice ao2 (L.length + 1) cap2)) ∧ (Keeps (fun b => blockOf ao = some b ∨ blockOf at' = some b) wx V) ∧ (RowR V 59 at' ct (T.map txRowV)) ∧ (OwnC V 43 3 ao2 cap2 (L ++ [[.string ⟨xn.toArray⟩, .slice xa xd.length xc, .string ⟨#[]⟩]])) ∧ (∀ g, blockOf ao2 = some g → N ≤ g) | 8 => ∃ (gy : Nat), a = (a0.put (some 32) (.slice (some ⟨gy, 0, none⟩) 1 1)) ∧ (Keeps (fun b => blockOf ao = some b ∨ blockOf at' = some b) wx V) ∧ (V.cell? ⟨g1, 0, none⟩ = some (.slice ao L.length cap)) ∧ (OwnC V 43 3 ao cap L) ∧ (RowR V 59 at' ct (T.map txRowV)) ∧ (Blk V gy #[.slice none 0 0] 59) | 9 => ∃ (gy : Nat), a = ((a0.put (some 27) (.slice ao L.length cap)).put (some 32) (.slice (some ⟨gy, 0, none⟩) 1 1)) ∧ (Keeps (fun b => blockOf ao = some b ∨ blockOf at' = some b) wx V) ∧ (OwnC V 43 3 ao cap L) ∧ (RowR V 59 at' ct (T.map txRowV)) ∧ (Blk V gy #[.slice none 0 0] 59) | 10 => ∃ (gx : Nat) (gy : Nat), a = ((a0.put (some 29) (.slice (some ⟨gx, 0, none⟩) 1 1)).put (some 32) (.slice (some ⟨gy, 0, none⟩) 1 1)) ∧ (Keeps (fun b => blockOf ao = some b ∨ blockOf at' = some b) wx V) ∧ (V.cell? ⟨g1, 0, none⟩ = some (.slice ao L.length cap)) ∧ (OwnC V 43 3 ao cap L) ∧ (RowR V 59 at' ct (T.map txRowV)) ∧ (Blk V gx #[.string ⟨xn.toArray⟩, .slice xa xd.length xc, .string ⟨#[]⟩] 43) ∧ (Blk V gy #[.slice none 0 0] 59) | 11 => ∃ (gx : Nat) (gy : Nat), a = (((a0.put (some 27) (.slice ao L.length cap)).put (some 29) (.slice (some ⟨gx, 0, none⟩) 1 1)).put (some 32) (.slice (some ⟨gy, 0, none⟩) 1 1)) ∧ (Keeps (fun b => blockOf ao = some b ∨ blockOf at' = some b) wx V) ∧ (OwnC V 43 3 ao cap L) ∧ (RowR V 59 at' ct (T.map txRowV)) ∧ (Blk V gx #[.string ⟨xn.toArray⟩, .slice xa xd.length xc, .string ⟨#[]⟩] 43) ∧ (Blk V gy #[.slice none 0 0] 59) | 15 => ∃ (gx : Nat) (gy : Nat) (ao2 : Option Addr) (cap2 : Nat), a = ((((a0.put (some 27) (.slice ao L.length cap)).put (some 29) (.slice (some ⟨gx, 0, none⟩) 1 1)).put (some 30) (.slice ao2 (L.length + 1) cap2)).put (some 32) (.slice (some ⟨gy, 0, none⟩) 1 1)) ∧ (Keeps (fun b => blockOf ao = some b ∨ blockOf at' = some b) wx V) ∧ (RowR V 59 at' ct (T.map txRowV)) ∧ (Blk V gy #[.slice none 0 0] 59) ∧ (OwnC V 43 3 ao2 cap2 (L ++ [[.string ⟨xn.toArray⟩, .slice xa xd.length xc, .string ⟨#[]⟩]])) ∧ (∀ g, blockOf ao2 = some g → N ≤ g) | _ => ∃ (gx : Nat) (gy : Nat) (ao2 : Option Addr) (cap2 : Nat) (at2 : Option Addr) (ct2 : Nat), a = (((((a0.put (some 27) (.slice ao L.length cap)).put (some 29) (.slice (some ⟨gx, 0, none⟩) 1 1)).put (some 30) (.slice ao2 (L.length + 1) cap2)).put (some 32) (.slice (some ⟨gy, 0, none⟩) 1 1)).put (some 33) (.slice at2 (T.length + 1) ct2)) ∧ (Keeps (fun b => blockOf ao = some b ∨ blockOf at' = some b) wx V) ∧ (OwnC V 43 3 ao2 cap2 (L ++ [[.string ⟨xn.toArray⟩, .slice xa xd.length xc, .string ⟨#[]⟩]])) ∧ (∀ g, blockOf ao2 = some g → N ≤ g) ∧ (RowR V 59 at2 ct2 (T.map txRowV ++ [.slice none 0 0])) ∧ (∀ g, blockOf at2 = some g → N ≤ g)) ⟨rfl, (Keeps.refl _ _).drew, hc1R, hOR, hRR⟩ (fun K hK => ⟨?_, ?_, ?_, ?_, ?_, ?_, ?_, ?_, ?_, ?_, ?_, ?_, ?_, ?_, ?_, ?_, trivial⟩) ?_
    · intro a' V hS hI
      obtain ⟨rfl, hK0, hc0, hO, hR⟩ := hI
      go_wp2_with fail
      refine hK 1 _ _ hS ?_
      exact ⟨rfl, hK0, hO, hR⟩
    · intro a' V hS hI
      obtain ⟨rfl, hK0, hc0, hO, hR⟩ := hI
      have ka : Keeps Nothing V (V.alloc (.cells #[.string ⟨xn.toArray⟩, .slice xa xd.length xc, .string ⟨#[]⟩] 43)) := (Keeps.refl Nothing V).alloc _
      go_wp2_with fail
      refine hK 2 _ _ ⟨ka.blk hS.1 (fun h => h), ka.blk hS.2 (fun h => h)⟩ ?_
      exact ⟨V.heap.size, rfl, hK0.trans ka (fun _ h _ => h.elim), ka.cell hc0 (fun h => h), hO.keepsN ka, hR.keepsN ka, blk_new V _ _⟩
    · intro a' V hS hI
      obtain ⟨rfl, hK0, hc0, hO, hR⟩ := hI
      have ka : Keeps Nothing V (V.alloc (.cells #[.slice none 0 0] 59)) := (Keeps.refl Nothing V).alloc _
      go_wp2_with fail
      refine hK 8 _ _ ⟨ka.blk hS.1 (fun h => h), ka.blk hS.2 (fun h => h)⟩ ?_
      exact ⟨V.heap.size, rfl, hK0.trans ka (fun _ h _ => h.elim), ka.cell hc0 (fun h => h), hO.keepsN ka, hR.keepsN ka, blk_new V _ _⟩
    · intro a' V hS hI
      obtain ⟨rfl, hK0, hO, hR⟩ := hI
      have ka : Keeps Nothing V (V.alloc (.cells #[.string ⟨xn.toArray⟩, .slice xa xd.length xc, .string ⟨#[]⟩] 43)) := (Keeps.refl Nothing V).alloc _
      go_wp2_with fail
      refine hK 3 _ _ ⟨ka.blk hS.1 (fun h => h), ka.blk hS.2 (fun h => h)⟩ ?_
      exact ⟨V.heap.size, rfl, hK0.trans ka (fun _ h _ => h.elim), hO.keepsN ka, hR.keepsN ka, blk_new V _ _⟩
    · intro a' V hS hI
      obtain ⟨rfl, hK0, hO, hR⟩ := hI
      have ka : Keeps Nothing V (V.alloc (.cells #[.slice none 0 0] 59)) := (Keeps.refl Nothing V).alloc _
      go_wp2_with fail
      refine hK 9 _ _ ⟨ka.blk hS.1 (fun h => h), ka.blk hS.2 (fun h => h)⟩ ?_
      exact ⟨V.heap.size, rfl, hK0.trans ka (fun _ h _ => h.elim), hO.keepsN ka, hR.keepsN ka, blk_new V _ _⟩
    · intro a' V hS hI
      obtain ⟨gx, rfl, hK0, hc0, hO, hR, hX1⟩ := hI
      go_wp2_with fail
      refine hK 3 _ _ hS ?_
      exact ⟨gx, rfl, hK0, hO, hR, hX1⟩
    · intro a' V hS hI
      obtain ⟨gx, rfl, hK0, hc0, hO, hR, hX1⟩ := hI
      have ka : Keeps Nothing V (V.alloc (.cells #[.slice none 0 0] 59)) := (Keeps.refl Nothing V).alloc _
      go_wp2_with fail
      refine hK 10 _ _ ⟨ka.blk hS.1 (fun h => h), ka.blk hS.2 (fun h => h)⟩ ?_
      exact ⟨gx, V.heap.size, rfl, hK0.trans ka (fun _ h _ => h.elim), ka.cell hc0 (fun h => h), hO.keepsN ka, hR.keepsN ka, ka.blk hX1 (fun h => h), blk_new V _ _⟩
    · intro a' V hS hI
      obtain ⟨gy, rfl, hK0, hc0, hO, hR, hX2⟩ := hI
      go_wp2_with fail
      refine hK 9 _ _ hS ?_
      exact ⟨gy, rfl, hK0, hO, hR, hX2⟩
    · intro a' V hS hI
      obtain ⟨gy, rfl, hK0, hc0, hO, hR, hX2⟩ := hI
      have ka : Keeps Nothing V (V.alloc (.cells #[.string ⟨xn.toArray⟩, .slice xa xd.length xc, .string ⟨#[]⟩] 43)) := (Keeps.refl Nothing V).alloc _
      go_wp2_with fail
      refine hK 10 _ _ ⟨ka.blk hS.1 (fun h => h), ka.blk hS.2 (fun h => h)⟩ ?_
      exact ⟨V.heap.size, gy, rfl, hK0.trans ka (fun _ h _ => h.elim), ka.cell hc0 (fun h => h), hO.keepsN ka, hR.keepsN ka, blk_new V _ _, ka.blk hX2 (fun h => h)⟩
    · intro a' V hS hI
      obtain ⟨gx, rfl, hK0, hO, hR, hX1⟩ := hI
      refine wpList_appSrc _ rfl (.tmp 27) (.tmp 29) rfl ao cap L L.length rfl rfl hO gx _ [.string ⟨xn.toArray⟩, .slice xa xd.length xc, .string ⟨#[]⟩] rfl rfl (src_one _ _ _ _ _) rfl hX1 hLb ?_
      intro ao2 cap2 V2 O2 k2 mv
      have ka : Keeps (fun b => blockOf ao = some b ∨ blockOf at' = some b) V V2 := k2.mono (fun _ h _ => .inl h)
      have hsz := hK0.size
      go_wp2_with fail
      refine hK 7 _ _ ⟨k2.blk hS.1 hao1, k2.blk hS.2 hao2⟩ ?_
      exact ⟨gx, ao2, cap2, rfl, hK0.trans ka (fun _ h _ => h), hR.keeps k2 (fun g hg q => by obtain ⟨cur, hc⟩ := rowR_blk hR hg; exact hO.ne hc (by decide) q), O2, fun g hg => moved_ge mv hnewo (by omega) hg⟩
    · intro a' V hS hI
      obtain ⟨gx, rfl, hK0, hO, hR, hX1⟩ := hI
      have ka : Keeps Nothing V (V.alloc (.cells #[.slice none 0 0] 59)) := (Keeps.refl Nothing V).alloc _
      go_wp2_with fail
      refine hK 11 _ _ ⟨ka.blk hS.1 (fun h => h), ka.blk hS.2 (fun h => h)⟩ ?_
      exact ⟨gx, V.heap.size, rfl, hK0.trans ka (fun _ h _ => h.elim), hO.keepsN ka, hR.keepsN ka, ka.blk hX1 (fun h => h), blk_new V _ _⟩
    · intro a' V hS hI
      obtain ⟨gy, rfl, hK0, hO, hR, hX2⟩ := hI
      have ka : Keeps Nothing V (V.alloc (.cells #[.string ⟨xn.toArray⟩, .slice xa xd.length xc, .string ⟨#[]⟩] 43)) := (Keeps.refl Nothing V).alloc _
      go_wp2_with fail
      refine hK 11 _ _ ⟨ka.blk hS.1 (fun h => h), ka.blk hS.2 (fun h => h)⟩ ?_
      exact ⟨V.heap.size, gy, rfl, hK0.trans ka (fun _ h _ => h.elim), hO.keepsN ka, hR.keepsN ka, blk_new V _ _, ka.blk hX2 (fun h => h)⟩
    · intro a' V hS hI
      obtain ⟨gx, gy, rfl, hK0, hc0, hO, hR, hX1, hX2⟩ := hI
      go_wp2_with fail
      refine hK 11 _ _ hS ?_
      exact ⟨gx, gy, rfl, hK0, hO, hR, hX1, hX2⟩
    · intro a' V hS hI
      obtain ⟨gx, ao2, cap2, rfl, hK0, hR, hO2, hn2⟩ := hI
      have ka : Keeps Nothing V (V.alloc (.cells #[.slice none 0 0] 59)) := (Keeps.refl Nothing V).alloc _
      go_wp2_with fail
      refine hK 15 _ _ ⟨ka.blk hS.1 (fun h => h), ka.blk hS.2 (fun h => h)⟩ ?_
      exact ⟨gx, V.heap.size, ao2, cap2, rfl, hK0.trans ka (fun _ h _ => h.elim), hR.keepsN ka, blk_new V _ _, hO2.keepsN ka, hn2⟩
    · intro a' V hS hI
      obtain ⟨gx, gy, rfl, hK0, hO, hR, hX1, hX2⟩ := hI
      refine wpList_appSrc _ rfl (.tmp 27) (.tmp 29) rfl ao cap L L.length rfl rfl hO gx _ [.string ⟨xn.toArray⟩, .slice xa xd.length xc, .string ⟨#[]⟩] rfl rfl (src_one _ _ _ _ _) rfl hX1 hLb ?_
      intro ao2 cap2 V2 O2 k2 mv
      have ka : Keeps (fun b => blockOf ao = some b ∨ blockOf at' = some b) V V2 := k2.mono (fun _ h _ => .inl h)
      have hsz := hK0.size
      go_wp2_with fail
      refine hK 15 _ _ ⟨k2.blk hS.1 hao1, k2.blk hS.2 hao2⟩ ?_
      exact ⟨gx, gy, ao2, cap2, rfl, hK0.trans ka (fun _ h _ => h), hR.keeps k2 (fun g hg q => by obtain ⟨cur, hc⟩ := rowR_blk hR hg; exact hO.ne hc (by decide) q), k2.blk hX2 (hO.ne hX2 (by decide)), O2, fun g hg => moved_ge mv hnewo (by omega) hg⟩
    · intro a' V hS hI
      obtain ⟨gx, gy, ao2, cap2, rfl, hK0, hR, hX2, hO2, hn2⟩ := hI
      refine wpList_appB _ rfl (.tmp 31) (.tmp 32) rfl at' ct (T.map txRowV) T.length (by rw [List.length_map]) rfl hR gy (.slice none 0 0) rfl rfl hX2 hTb ?_
      intro at2 ct2 V2 R2 k2 mv
      have ka : Keeps (fun b => blockOf ao = some b ∨ blockOf at' = some b) V V2 := k2.mono (fun _ h _ => .inr h)
      have hsz := hK0.size
      go_wp2_with fail
      refine hK 31 _ _ ⟨k2.blk hS.1 (hR.ne hS.1 (by decide)), k2.blk hS.2 hat2⟩ ?_
      exact ⟨gx, gy, ao2, cap2, at2, ct2, rfl, hK0.trans ka (fun _ h _ => h), hO2.keeps k2 (fun g hg q => by obtain ⟨cur, hc⟩ := rowR_blk hR q; exact hO2.ne hc (by decide) hg), hn2, R2, fun g hg => moved_ge mv hnewt (by omega) hg⟩
    intro a' V hS hI
    obtain ⟨gx, gy, ao2, cap2, at2, ct2, rfl, hK0, hO2, hn2, hR2, hn3⟩ := hI
    have b1V := hK0.blk PR.out.b1 (fun q => by rcases q with q | q; exact PR.out.own1 q; exact hat1 q)
    have b3V := hS.2
    have c1V := blk_cell b1V 0 (v := .slice ao L.length cap) rfl
    have f1V := blk_free b1V 0
    have PF := PR.out.push hK0 hO2 hn2 hR2 hn3 hsrcR.out
    have b2V : Blk V g2 #[(.iface 78 (.pointer (some ⟨be, 0, none⟩)))] 26 := hK0.blk (show Blk wx g2 #[(.iface 78 (.pointer (some ⟨be, 0, none⟩)))] 26 from b2R) (fun q => by rcases q with q | q; exact no2 q; exact nt2 q)
    have n13 := PR.out.ne13
    have b3V1 := blk_other b3V ⟨g1, 0, none⟩ (fun e => n13 e.symm) (.slice ao2 (L.length + 1) cap2)
    have c3V1 := blk_cell b3V1 0 (v := .slice at' T.length ct) rfl
    have f3V1 := blk_free b3V1 0
    have nb1 : gb ≠ g1 := fun q => by subst q; exact absurd (blk_unlike hS.1 b1V) (by decide)
    have BV1 := blk_other hS.1 ⟨g1, 0, none⟩ nb1 (.slice ao2 (L.length + 1) cap2)
    have k1 : Keeps (fun b => b = g1 ∨ b = g3) V ((V.setCell ⟨g1, 0, none⟩ (.slice ao2 (L.length + 1) cap2)).setCell ⟨g3, 0, none⟩ (.slice at2 (T.length + 1) ct2)) :=
      ((Keeps.refl (fun b => b = g1 ∨ b = g3) V).setCell (p := ⟨g1, 0, none⟩) (fun _ => .inl rfl) _).setCell (p := ⟨g3, 0, none⟩) (fun _ => .inr rfl) _
    have b2F := k1.blk b2V (fun q => by rcases q with q | q; exact n12 q.symm; exact n32 q.symm)
    have c2F := blk_cell b2F 0 (v := (.iface 78 (.pointer (some ⟨be, 0, none⟩)))) rfl
    have hlow := shut ((kWR.out.trans hK0 (fun g hg _ => by rcases hg with hg | hg; exact hnewo g hg; exact hnewt g hg)).trans k1 (fun g hg _ => by rcases hg with hg | hg; rw [hg]; exact PR.out.lo1; rw [hg]; exact PR.out.lo3))
    have PF := shut PF
    have HF := shut (((((hE.out.keeps kER.out (fun i hi => by have hi' : i = g2 := hi; rw [hi']; exact h25)).keeps hK0 (fun i hi => by rcases hi with hi | hi; exact noL i hi; exact ntL i hi)).keeps k1 (fun i hi => by rcases hi with hi | hi; rw [hi]; exact h15; rw [hi]; exact h35)).mono hN5))
    clear hK0 hO2 hR2 hS b1V b3V b2V BR hc1R hOR hRR kdr PR hsrcR kWR
    refine wpMixG_one (fun K hK => ?_)
    go_wp2_with fail
    any_goals try (rename_i hfz; simp [f1V] at hfz; done)
    refine hK _ _ (.inr ⟨BV1, b3V1⟩) ?_
    clear hK K BV1 b3V1 c1V f1V
    refine wpMixG_one (fun K hK => ?_)
    go_wp2_with fail
    any_goals try (rename_i hfz; simp [f3V1] at hfz; done)
    refine hK _ _ (.inl trivial) ?_
    clear hK K
    refine wpMixG_done ?_
    go_wp2_with fail
    go_ret
    exact ⟨hlow.out, false, rfl, (fun q => by cases q), (fun _ => ⟨HC0.out, _, b2F, HF.out⟩)⟩

end Go.Proofs.YtiliajnijjkcdaaDoor
