/- Package manifest: a line of a crate's text. -/
import Derived.Test.YtiliajnijjkcdaaDoorMan11
namespace Go.Proofs.YtiliajnijjkcdaaDoor
open Go.RowKit

attribute [local go_sem ↓] exec_mid_src exec_store_src
attribute [local go_sem] rowOk_new World.setRow_alloc_new aggOk_src

theorem src_txt (w : World) (s : List UInt8) : Src Tryd.prog 1 9 (.string ⟨s.toArray⟩) s.length (s.map byteV) w := by
  have h := src_string w ⟨s.toArray⟩
  have e : bytesOf ⟨s.toArray⟩ = s := by first | exact txt s | simp [bytesOf]
  rwa [e] at h

set_option maxRecDepth 100000 in
set_option linter.unusedSimpArgs false in
set_option maxHeartbeats 8000000 in
theorem parse1_text {N : Nat} {w : World} {g1 g2 g3 : Nat} {ao : Option Addr} {cap : Nat} {L : List (List Value)} {at' : Option Addr} {ct : Nat} {T : List TxR} {o : List SrcD} {d : SrcD} (P : PS N w g1 g3 ao cap L at' ct T (o ++ [d])) (hN : N ≤ w.heap.size) (h2 : N ≤ g2) (b2 : Blk w g2 #[.nilIface] 26)
    (s : List UInt8) (hs : s.length ≤ 10000000) (p : Nat) (hh : isHead s = false) (ho : o.length ≤ 100) (hd : d.text.length ≤ 10000000) :
    Calls Tryd.prog 20 #[.int .i64 (p : Int), .string ⟨(s.take (lineN s)).toArray⟩, .pointer (some ⟨g1, 0, none⟩), .pointer (some ⟨g2, 0, none⟩), .pointer (some ⟨g3, 0, none⟩)] w (StepPost N w g1 g2 g3 p (stepM (o ++ [d]) s)) := by
  have hst : stepM (o ++ [d]) s = (0, o ++ [⟨d.name, d.deps, d.text ++ s.take (lineN s)⟩]) := by
    unfold stepM
    rw [if_neg (by rw [hh]; simp), if_neg (by simp), addText_app]
  have htr := fun W => trimSuffix_any (s.take (lineN s)) [10] W (by rw [List.length_take]; omega)
  have hpr := fun W => shPrefix_any (s.take (lineN s)) [61, 61] W
  rw [trim_line] at htr
  rw [head_line, hh] at hpr
  have hll : (s.take (lineN s)).length ≤ 10000000 := by rw [List.length_take]; omega
  rw [hst]
  generalize s.take (lineN s) = line at *
  generalize bareL s = bare at *
  clear hst hh hs
  obtain ⟨T0, x, rfl⟩ : ∃ T0 x, T = T0 ++ [x] := by
    have hne : T ≠ [] := by intro q; have := P.tlen; rw [q] at this; simp at this
    exact ⟨T.dropLast, T.getLast hne, (List.dropLast_concat_getLast hne).symm⟩
  have htl : T0.length = o.length := by have := P.tlen; simpa using this
  have hLl : L.length = o.length + 1 := by have := P.len; simpa using this
  have hxt : x.2.2 = d.text := by
    obtain ⟨y, e1, e2⟩ := P.texts o.length d (by rw [List.getElem?_concat_length])
    rw [← htl, List.getElem?_concat_length] at e1
    obtain rfl := Option.some.inj e1
    exact e2
  obtain ⟨gt, ot, rfl⟩ := P.row.head (by simp)
  have PP := shut P
  have c1 := blk_cell P.b1 0 (v := .slice ao L.length cap) rfl
  have c3 := blk_cell P.b3 0 (v := .slice (some ⟨gt, ot, none⟩) (T0 ++ [x]).length ct) rfl
  have ce : w.cell? ⟨gt, ot + T0.length, none⟩ = some (txRowV x) := P.row.cell (by simp)
  have hO := (P.owns x (by simp)).1
  have hxl : x.2.2.length ≤ 10000000 := by rw [hxt]; exact hd
  rw [List.length_append, List.length_singleton] at c3
  obtain ⟨m, hm⟩ : ∃ m, T0.length = m := ⟨_, rfl⟩
  rw [hm] at c3 ce htl
  rw [hLl, ← htl] at c1
  rw [← htl] at ho
  have HM := shut hm
  have HX := shut hxt
  obtain ⟨xa, xc, xt⟩ := x
  simp only [txRowV] at ce hO hxl HX
  have hw1 : IntKind.i64.wrap ((m : Int) + 1 - 1) = (m : Int) := by rw [IntKind.wrap_i64]; omega
  have hw2 : IntKind.i64.wrap (m : Int) = (m : Int) := by rw [IntKind.wrap_i64]; omega
  have m0 : (0 : Int) ≤ m := by omega
  have m1 : (m : Int) < (m : Int) + 1 := by omega
  have m2 : (0 : Int) < (m : Int) + 1 := by omega
  clear P hm hLl htl hxt hd
  have fx : ∀ g, blockOf xa = some g → g ≠ g3 ∧ g ≠ gt ∧ g ≠ g2 := fun g hg => by
    obtain ⟨cur, hc⟩ := own8_not hO hg
    refine ⟨fun q => ?_, fun q => ?_, fun q => ?_⟩
    · subst q; exact absurd (blk_unlike hc PP.out.b3) (by decide)
    · subst q; exact PP.out.row.ne hc (by decide) rfl
    · subst q; exact absurd (blk_unlike hc b2) (by decide)
  go_enter Tryd.func20, Tryd.ntmps20
  go_wp2_with fail
  refine (htr _).mono ?_
  rintro e w1 ⟨rfl, rfl⟩
  go_wp2_with fail
  refine (hpr _).mono ?_
  rintro e w1 ⟨rfl, rfl⟩
  clear htr hpr
  go_upto_region 7 with fail
  refine wp_region_mixT (fun W => W.cell? ⟨g3, 0, none⟩ = some (.slice (some ⟨gt, ot, none⟩) (m + 1) ct) ∧ W.cell? ⟨gt, ot + m, none⟩ = some (.slice xa xt.length xc)) 13 (.take 0 (.take 1 (.take 2 (.take 3 (.take 4 (.take 5 (.take 6 (.take 7 (.take 8 (.take 9 (.take 10 (.one 11 (.take 12 (.one 13 .done)))))))))))))) (by kernel_rfl) (by kernel_rfl) ⟨c3, ce⟩ ?_
  simp only [itemsT, PlanT.map, List.getD_cons_zero, List.getD_cons_succ, Nat.reduceBEq]
  refine wpMixT_yield (v := .slice (some ⟨gt, ot, none⟩) (m + 1) ct) (fun W hW => ?_) (fun K hK => ?_)
  · obtain ⟨q1, q2⟩ := hW
    go_simp
  go_simp
  refine hK _ ?_
  clear hK K
  refine wpMixT_yield (v := .slice (some ⟨gt, ot, none⟩) (m + 1) ct) (fun W hW => ?_) (fun K hK => ?_)
  · obtain ⟨q1, q2⟩ := hW
    go_simp
  go_simp
  refine hK _ ?_
  clear hK K
  repeat (refine wpMixT_free (fun K hK => ?_); go_simp; refine hK _ ?_; clear hK K)
  refine wpMixT_yield (v := .slice (some ⟨gt, ot, none⟩) (m + 1) ct) (fun W hW => ?_) (fun K hK => ?_)
  · obtain ⟨q1, q2⟩ := hW
    go_simp
  go_simp
  refine hK _ ?_
  clear hK K
  refine wpMixT_yield (v := .slice (some ⟨gt, ot, none⟩) (m + 1) ct) (fun W hW => ?_) (fun K hK => ?_)
  · obtain ⟨q1, q2⟩ := hW
    go_simp
  go_simp
  refine hK _ ?_
  clear hK K
  repeat (refine wpMixT_free (fun K hK => ?_); go_simp; refine hK _ ?_; clear hK K)
  refine wpMixT_yield (v := .slice xa xt.length xc) (fun W hW => ?_) (fun K hK => ?_)
  · obtain ⟨q1, q2⟩ := hW
    go_simp
  go_simp
  refine hK _ ?_
  clear hK K
  repeat (refine wpMixT_free (fun K hK => ?_); go_simp; refine hK _ ?_; clear hK K)
  refine wpMixT_one (fun K hK => ?_)
  have kd : Keeps Nothing w1 w1.drew := (Keeps.refl Nothing w1).drew
  refine wpList_app8 _ rfl (.tmp 47) (.tmp 48) 9 rfl xa xc xt rfl (kd.own hO (fun _ _ h => h)) _ rfl line (src_txt _ line) (by omega) (by omega) ?_
  intro a2 c2 V O2 k2 mv
  have kV : Keeps (fun b => blockOf xa = some b) w1 V := (kd.mono (S' := fun b => blockOf xa = some b) (fun _ h _ => h.elim)).trans k2 (fun _ h _ => h)
  have n3 : ¬ blockOf xa = some g3 := fun q => (fx g3 q).1 rfl
  have nt : ¬ blockOf xa = some gt := fun q => (fx gt q).2.1 rfl
  have n2 : ¬ blockOf xa = some g2 := fun q => (fx g2 q).2.2 rfl
  have c3V := kV.cell c3 n3
  have ceV := kV.cell ce nt
  have b2V := kV.blk b2 n2
  have RV := PP.out.row.keeps kV (fun g hg q => by
    obtain rfl : gt = g := by simpa [blockOf] using hg
    exact nt q)
  have feV := RV.free (ot + m)
  have ngt : g2 ≠ gt := fun q => by
    subst q
    exact RV.ne b2V (by decide) rfl
  have PM := PP.out.more (t := line) hN O2 kV mv
  rw [HM.out, List.length_append] at PM
  have kst : Keeps (fun b => b = gt) V (V.setCell ⟨gt, ot + m, none⟩ (.slice a2 (xt.length + line.length) c2)) := (Keeps.refl (fun b => b = gt) V).setCell (p := ⟨gt, ot + m, none⟩) (fun _ => rfl) _
  have b2F := kst.blk b2V ngt
  have c2F := blk_cell b2F 0 (v := .nilIface) rfl
  have hlow : Keeps (fun b => N ≤ b) w1 (V.setCell ⟨gt, ot + m, none⟩ (.slice a2 (xt.length + line.length) c2)) := (kV.mono (S' := fun b => N ≤ b) (fun g hg _ => (PP.out.owns (xa, xc, xt) (by simp)).2 g hg)).trans kst (fun g hg _ => by have hg' : g = gt := hg; rw [hg']; exact PP.out.newt gt rfl)
  have HF := shut PM
  have HF2 := shut hlow
  clear PM hlow PP RV k2 mv O2 kd c3 ce b2 b2V
  go_wp2_with fail
  refine hK _ _ (.inr ⟨c3V, ceV⟩) ?_
  clear hK K
  repeat (refine wpMixT_free (fun K hK => ?_); go_simp; refine hK _ ?_; clear hK K)
  refine wpMixT_one (fun K hK => ?_)
  go_wp2_with fail
  any_goals try (rename_i hfz; simp [feV] at hfz; done)
  refine hK _ _ (.inl trivial) ?_
  clear hK K
  refine wpMixT_done ?_
  go_wp2_with fail
  go_ret
  have HFE : PS N (V.setCell ⟨gt, ot + m, none⟩ (.slice a2 (xt.length + line.length) c2)) g1 g3 ao cap L (some ⟨gt, ot, none⟩) ct (T0 ++ [(a2, c2, xt ++ line)]) (o ++ [⟨d.name, d.deps, d.text ++ line⟩]) := HF.out
  exact ⟨HF2.out, true, rfl, (fun _ => ⟨rfl, ⟨⟨_, _, _, _, _, _, HFE⟩, b2F⟩⟩), (fun q => by cases q)⟩

end Go.Proofs.YtiliajnijjkcdaaDoor
