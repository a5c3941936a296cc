/- Package tree: bare, in place. Package tree: Bare. -/
import Derived.Test.YtjbcagbnagefcaaTrN
namespace Go.Proofs.Ytjbcagbnagefcaa
open Go.RowKit

attribute [local irreducible] wpMix wpMixB wpList
attribute [local go_sem ↓] exec_mid_ty exec_store_ty exec_mid_pl exec_store_pl exec_mid_opr exec_store_opr exec_mid_val exec_store_val exec_mid_st exec_store_st exec_mid_fld exec_store_fld exec_mid_str exec_store_str exec_mid_lif exec_store_lif exec_mid_fun exec_store_fun exec_mid_cr exec_store_cr
attribute [local go_sem] rowOk_new World.setRow_alloc_new

/-- A statement's cells that matter here; its blocks put anew. -/
theorem st2_cells {S : Nat → Prop} {w : World} {d : StD} {cs : List Value} {b o : Nat} (h : St2 S w d cs) (hr : w.rangeAt b o cs) : ∃ (a30 : Option Addr) (c30 : Nat) (a31 : Option Addr) (c31 : Nat), w.cell? ⟨b, o + 1, none⟩ = some (.int .i64 d.pos) ∧ w.cell? ⟨b, o + 30, none⟩ = some (.slice a30 d.thn.length c30) ∧ w.cell? ⟨b, o + 31, none⟩ = some (.slice a31 d.els.length c31) ∧ Sl2 S w a30 d.thn ∧ Sl2 S w a31 d.els ∧
    ∀ thn' els', thn'.length = d.thn.length → els'.length = d.els.length → Sl2 S w a30 thn' → Sl2 S w a31 els' → St2 S w (.mk d.kind d.pos d.mu d.name d.ty d.has d.place d.val d.cond thn' els') cs := by
  rw [st2_iff] at h
  obtain ⟨s4, s9, s11, s26, a30, c30, a31, c31, hcs, h0, h1, h2, h3, h4, h5, h6⟩ := h
  have hr2 := hr
  rw [hcs] at hr2
  obtain ⟨-, e1, -, -, -, -, -, -, -, e30, e31⟩ := StR h1.len h2.len h3.len h4.len hr2
  refine ⟨a30, c30, a31, c31, e1, e30, e31, h5, h6, fun thn' els' q1 q2 q3 q4 => ?_⟩
  rw [st2_iff]
  exact ⟨s4, s9, s11, s26, a30, c30, a31, c31, by rw [hcs]; simp only [StD.kind, StD.pos, StD.mu, StD.name, StD.has, StD.thn, StD.els, q1, q2], h0, h1, h2, h3, h4, q3, q4⟩
theorem Zr.cell {N : Nat} {w w' : World} (h : Zr N w w') {b j : Nat} {v : Value} (hb : stB w b) (hv : w.cell? ⟨b, j, none⟩ = some v) (hj : j % 32 ≠ 1) : w'.cell? ⟨b, j, none⟩ = some v := by
  obtain ⟨cur, hc⟩ := hb
  obtain ⟨c', h1, h2⟩ := h.on b cur hc
  rcases h2 j with q | ⟨q, _⟩
  · exact blk_cell h1 j (by rw [q]; exact blk_inv hc hv)
  · exact absurd q hj
theorem Zr.zero {N : Nat} {w w' : World} (h : Zr N w w') {b j : Nat} (hb : stB w b) (hv : w.cell? ⟨b, j, none⟩ = some (.int .i64 0)) : w'.cell? ⟨b, j, none⟩ = some (.int .i64 0) := by
  obtain ⟨cur, hc⟩ := hb
  obtain ⟨c', h1, h2⟩ := h.on b cur hc
  rcases h2 j with q | ⟨_, q⟩
  · exact blk_cell h1 j (by rw [q]; exact blk_inv hc hv)
  · exact blk_cell h1 j q
theorem row_set {α : Type} {w : World} {k : Nat} {P : α → List Value → Prop} {l : List α} {b o t : Nat} {d : α} {cs : List Value} (h : rowIs w k P l b o) (ht : t < l.length) (hl : cs.length = k) (hr : w.rangeAt b (o + t * k) cs) (hp : P d cs) : rowIs w k P (l.set t d) b o := by
  refine rowIs_mk fun j e he => ?_
  rw [List.getElem?_set] at he
  by_cases hj : t = j
  · subst hj
    rw [if_pos rfl, if_pos ht] at he
    obtain rfl := Option.some.inj he
    exact ⟨cs, hl, hr, hp⟩
  · rw [if_neg hj] at he
    exact rowIs_get h he
theorem bareS_eq {d e : StD} (h : bareS d = bareS e) : bareL d.thn = bareL e.thn ∧ bareL d.els = bareL e.els ∧ bareS e = .mk d.kind 0 d.mu d.name d.ty d.has d.place d.val d.cond (bareL e.thn) (bareL e.els) := by
  obtain ⟨d1, d2, d3, d4, d5, d6, d7, d8, d9, d10, d11⟩ := d
  obtain ⟨e1, e2, e3, e4, e5, e6, e7, e8, e9, e10, e11⟩ := e
  simp only [bareS, StD.mk.injEq] at h
  obtain ⟨rfl, -, rfl, rfl, rfl, rfl, rfl, rfl, rfl, h1, h2⟩ := h
  exact ⟨h1, h2, by simp only [bareS, StD.kind, StD.mu, StD.name, StD.ty, StD.has, StD.place, StD.val, StD.cond, StD.thn, StD.els]⟩
theorem Sl2.bare_on {N : Nat} {w w' : World} {ao : Option Addr} {l : List StD} (h : Sl2 (N ≤ ·) w ao (bareL l)) (z : Zr N w w') : Sl2 (N ≤ ·) w' ao (bareL l) := by
  obtain ⟨l', h1, h2, h3⟩ := z.sl h
  have := all_bare h2 h3 (bareL_twice l)
  rwa [this] at h1

/-- bare takes the places out of statements that lie in blocks from N on. -/
def BareC (l : List StD) : Prop := ∀ (l' : List StD), bareL l' = bareL l → ∀ (w : World) (N : Nat) (ao : Option Addr) (c : Nat), Sl2 (N ≤ ·) w ao l' → Calls Try.prog 29 #[.slice ao l'.length c] w fun e w' => e = .returned (.tuple #[]) ∧ Zr N w w' ∧ Sl2 (N ≤ ·) w' ao (bareL l)
/-- So far. -/
def BareI (N : Nat) (ao : Option Addr) (l : List StD) (t : Nat) (wx : World) : Prop := ∃ l', Sl2 (N ≤ ·) wx ao l' ∧ bareL l' = bareL l ∧ ∀ (i : Nat) (e : StD), i < t → l'[i]? = some e → bareS e = e
theorem bareI_done {N : Nat} {ao : Option Addr} {l : List StD} {n : Nat} {w : World} (hn : l.length = n) (h : BareI N ao l n w) : Sl2 (N ≤ ·) w ao (bareL l) := by
  obtain ⟨l', h1, h2, h3⟩ := h
  have hl : l'.length = n := by rw [← bareL_len l', h2, bareL_len, hn]
  have : l' = bareL l' := by
    rw [bareL_map]
    apply List.ext_getElem?
    intro i
    rw [List.getElem?_map]
    rcases Nat.lt_or_ge i l'.length with q | q
    · rw [List.getElem?_eq_getElem q, Option.map_some, h3 i _ (by omega) (List.getElem?_eq_getElem q)]
    · rw [List.getElem?_eq_none q]; rfl
  rw [h2] at this
  rw [← this]
  exact h1

set_option maxRecDepth 100000 in
set_option linter.unusedSimpArgs false in
set_option maxHeartbeats 8000000 in
theorem bare_of {l : List StD} (H : ∀ e ∈ l, BareC e.thn ∧ BareC e.els) : BareC l := by
  intro l0 hl0 w N ao c h
  have hlen : l0.length = l.length := by rw [← bareL_len l0, hl0, bareL_len]
  have hnb : l.length ≤ 100000000 := by have := h.1; unfold bigN at this; omega
  have H0 : Shut (BareI N ao l 0 w) := shut ⟨l0, h, hl0, fun i e hi => by omega⟩
  have HIH := shut H
  rw [hlen]
  obtain ⟨n, hln⟩ : ∃ n, l.length = n := ⟨_, rfl⟩
  rw [hln] at hnb ⊢
  have HLN := shut hln
  clear H hl0 h hln hlen
  go_enter Try.func29, Try.ntmps29
  go_wp2_with fail
  go_loopw [2, 5] (fun _ s5 wx => ∃ t : Nat, s5 = .int .i64 t ∧ t ≤ n ∧ Zr N w wx ∧ Shut (BareI N ao l t wx)) (fun _ s5 _ => n - (intOf s5).toNat)
  case atStart => exact ⟨0, rfl, Nat.zero_le _, Zr.refl _ _, H0⟩
  case round =>
    obtain ⟨t, rfl, ht, Z, HI⟩ := hrel
    clear H0
    by_cases hlt : t < n
    rotate_left
    · obtain rfl : t = n := by omega
      have m1 : ¬ (t : Int) < t := by omega
      have HF := shut (bareI_done HLN.out HI.out)
      clear HI
      go_wp2_with fail
      first | refine bodyPost_ret (v := .tuple #[]) (results_none rfl _ _ _) rfl ?_ | refine bodyPost_end (results_none rfl _ _ _) rfl ?_
      exact ⟨rfl, Z, HF.out⟩
    have m1 : (t : Int) < n := by omega
    have m0 : (0 : Int) ≤ t := by omega
    obtain ⟨lr, r1, r2, r3⟩ := HI.out
    have hlr : lr.length = n := by rw [← bareL_len lr, r2, bareL_len, HLN.out]
    obtain ⟨e0, he0⟩ : ∃ e0, l[t]? = some e0 := ⟨_, List.getElem?_eq_getElem (by rw [HLN.out]; exact hlt)⟩
    have key : ∀ l2 : List StD, bareL l2 = bareL l → ∃ d, l2[t]? = some d ∧ bareS d = bareS e0 := fun l2 h2 => by
      have h3 : (bareL l2)[t]? = (bareL l)[t]? := by rw [h2]
      rw [bareL_map, bareL_map, List.getElem?_map, List.getElem?_map, he0, Option.map_some, Option.map_eq_some_iff] at h3
      exact h3
    obtain ⟨d, hd, hdb⟩ := key lr r2
    obtain ⟨b, rfl, hbon, cs, -, hrg, hst⟩ := r1.get hd
    obtain ⟨_, _, _, _, ce1, -, -, -, -, -⟩ := st2_cells hst hrg
    obtain ⟨cur, hcur⟩ := hbon.2
    have hbN : N ≤ b := hbon.1
    have f1 := blk_free hcur (t * 32 + 1)
    have z1 : Zr N wr (wr.setCell ⟨b, t * 32 + 1, none⟩ (.int .i64 0)) := Zr.set hbN ⟨cur, hcur⟩
    have c1 : (wr.setCell ⟨b, t * 32 + 1, none⟩ (.int .i64 0)).cell? ⟨b, t * 32 + 1, none⟩ = some (.int .i64 0) := by
      refine blk_cell (blk_set hcur (t * 32 + 1) (.int .i64 0)) _ ?_
      rw [Array.getElem?_setIfInBounds, if_pos rfl, if_pos]
      have := blk_inv hcur ce1
      exact (Array.getElem?_eq_some_iff.1 this).1
    obtain ⟨l1, p1, p2, p3⟩ := z1.sl r1
    have hb1 : stB (wr.setCell ⟨b, t * 32 + 1, none⟩ (.int .i64 0)) b := z1.st.2 ⟨cur, hcur⟩
    obtain ⟨d1, hd1, hd1b⟩ := key l1 (p2.trans r2)
    obtain ⟨b', hbb, -, cs1, -, hrg1, hst1⟩ := p1.get hd1
    simp only [Option.some.injEq, Addr.mk.injEq, and_true] at hbb
    subst hbb
    obtain ⟨a30, c30, a31, c31, -, q30, q31, q5, q6, -⟩ := st2_cells hst1 hrg1
    have hd1e := bareS_eq hd1b
    have KEY := shut key
    have R2 := shut r2
    have R3 := shut r3
    have HP := shut p1
    have HP2 : Shut (bareL l1 = bareL l) := shut (p2.trans r2)
    have HP3 : Shut (∀ (i : Nat) (e : StD), i < t → l1[i]? = some e → bareS e = e) := shut (fun i e hi he => by
      rcases Nat.lt_or_ge i lr.length with q | q
      · have h1 := p3 i _ (List.getElem?_eq_getElem q) (r3 i _ hi (List.getElem?_eq_getElem q))
        rw [he] at h1
        obtain rfl := Option.some.inj h1
        exact r3 i _ hi (List.getElem?_eq_getElem q)
      · have : i < l1.length := (List.getElem?_eq_some_iff.1 he).1
        have h2 : l1.length = lr.length := by rw [← bareL_len l1, p2, bareL_len]
        omega)
    have hthn := (HIH.out e0 (List.mem_of_getElem? he0)).1 d1.thn hd1e.1 _ N a30 c30 q5
    have HEL := shut (HIH.out e0 (List.mem_of_getElem? he0)).2
    have Q31 := shut q31
    have Q30 := shut q30
    have C1 := shut c1
    have HB1 := shut hb1
    have ZZ := Z.trans z1
    obtain ⟨nt, hnt⟩ : ∃ nt, d1.thn.length = nt := ⟨_, rfl⟩
    have HNT := shut hnt
    rw [hnt] at hthn q30
    clear hd1e q5 q6 hst1 hrg1 hd1b p3 p2 p1 hst hrg hdb hd r1 r2 r3 key hnt hlr HI Z z1 hcur hbon
    go_upto_region 4 with fail
    any_goals try (rename_i hfz; simp [f1] at hfz; done)
    clear f1 ce1
    generalize wr.setCell ⟨b, t * 32 + 1, none⟩ (.int .i64 0) = w1 at *
    go_wp2_with fail
    refine hthn.mono ?_
    rintro e w2 ⟨rfl, z2, S2⟩
    clear hthn
    obtain ⟨l2, p1, p2, p3⟩ := z2.sl HP.out
    obtain ⟨d2, hd2, hd2b⟩ := KEY.out l2 (p2.trans HP2.out)
    obtain ⟨b', hbb, -, cs2, -, hrg2, hst2⟩ := p1.get hd2
    simp only [Option.some.injEq, Addr.mk.injEq, and_true] at hbb
    subst hbb
    obtain ⟨_, _, a31', c31', -, -, g31, -, g6, -⟩ := st2_cells hst2 hrg2
    have k31 := z2.cell HB1.out Q31.out (by omega)
    rw [g31] at k31
    simp only [Option.some.injEq, Value.slice.injEq] at k31
    obtain ⟨rfl, k31l, rfl⟩ := k31
    have hd2e := bareS_eq hd2b
    have hels := HEL.out d2.els hd2e.2.1 w2 N a31' c31' g6
    have ZZ2 := ZZ.trans z2
    have HB2 := shut (z2.st.2 HB1.out)
    have HS2 := shut S2
    have HP' := shut p1
    have HP2' : Shut (bareL l2 = bareL l) := shut (p2.trans HP2.out)
    have HP3' : Shut (∀ (i : Nat) (e : StD), i < t → l2[i]? = some e → bareS e = e) := shut (fun i e hi he => by
      have h2 : l2.length = l1.length := by rw [← bareL_len l2, p2, bareL_len]
      have hi1 : i < l1.length := by rw [← h2]; exact (List.getElem?_eq_some_iff.1 he).1
      have h1 := p3 i _ (List.getElem?_eq_getElem hi1) (HP3.out i _ hi (List.getElem?_eq_getElem hi1))
      rw [he] at h1
      obtain rfl := Option.some.inj h1
      exact HP3.out i _ hi (List.getElem?_eq_getElem hi1))
    have C2 := shut (z2.zero HB1.out C1.out)
    have Q30' := shut (z2.cell HB1.out Q30.out (by omega))
    have G31 := shut g31
    obtain ⟨ne, hne⟩ : ∃ ne, d2.els.length = ne := ⟨_, rfl⟩
    have HNE := shut hne
    rw [hne] at hels g31
    clear hd2e g6 hst2 hrg2 hd2b p3 p2 p1 S2 z2 ZZ hne k31l hd2
    go_wp2_with fail
    refine hels.mono ?_
    rintro e w3 ⟨rfl, z3, S3⟩
    clear hels
    obtain ⟨l3, p1, p2, p3⟩ := z3.sl HP'.out
    obtain ⟨d3, hd3, hd3b⟩ := KEY.out l3 (p2.trans HP2'.out)
    obtain ⟨b', hbb, hbon3, cs3, hl3, hrg3, hst3⟩ := p1.get hd3
    simp only [Option.some.injEq, Addr.mk.injEq, and_true] at hbb
    subst hbb
    obtain ⟨a30x, c30x, a31x, c31x, h1, h30, h31, -, -, hmk⟩ := st2_cells hst3 hrg3
    have k1 := z3.zero HB2.out C2.out
    rw [h1] at k1
    simp only [Option.some.injEq, Value.int.injEq, true_and] at k1
    have k30 := z3.cell HB2.out Q30'.out (by omega)
    rw [h30] at k30
    simp only [Option.some.injEq, Value.slice.injEq] at k30
    obtain ⟨rfl, k30l, rfl⟩ := k30
    have k31 := z3.cell HB2.out G31.out (by omega)
    rw [h31] at k31
    simp only [Option.some.injEq, Value.slice.injEq] at k31
    obtain ⟨rfl, k31l, rfl⟩ := k31
    have hd3e := bareS_eq hd3b
    have l10 : (bareL e0.thn).length = d3.thn.length := by rw [← hd3e.1, bareL_len]
    have l11 : (bareL e0.els).length = d3.els.length := by rw [← hd3e.2.1, bareL_len]
    have hnew := hmk _ _ l10 l11 (HS2.out.bare_on z3) S3
    rw [k1, ← hd3e.2.2] at hnew
    have hl3n : l3.length = n := by rw [← bareL_len l3, p2, HP2'.out, bareL_len, HLN.out]
    have hfin : BareI N (some ⟨b, 0, none⟩) l (t + 1) w3 := by
      refine ⟨l3.set t (bareS e0), ⟨by rw [List.length_set]; exact p1.1, .inr ⟨b, rfl, hbon3, ?_⟩⟩, ?_, fun i e hi he => ?_⟩
      · rcases p1.2 with q | ⟨b', q1, _, q3⟩
        · rw [q] at hd3; cases hd3
        · simp only [Option.some.injEq, Addr.mk.injEq, and_true] at q1
          subst q1
          exact row_set q3 (by omega) hl3 (by rw [Nat.zero_add]; exact hrg3) hnew
      · rw [← HP2'.out, ← p2, bareL_map, bareL_map, List.map_set, bareS_twice]
        apply List.ext_getElem?
        intro i
        rw [List.getElem?_set]
        by_cases hti : t = i
        · subst hti
          rw [if_pos rfl, List.length_map, if_pos (by omega), List.getElem?_map, hd3, Option.map_some, hd3b]
        · rw [if_neg hti]
      · rw [List.getElem?_set] at he
        by_cases hti : t = i
        · subst hti
          rw [if_pos rfl, if_pos (by omega)] at he
          obtain rfl := Option.some.inj he
          exact bareS_twice e0
        · rw [if_neg hti] at he
          have hi1 : i < l2.length := by
            have h2 : l3.length = l2.length := by rw [← bareL_len l3, p2, bareL_len]
            rw [← h2]; exact (List.getElem?_eq_some_iff.1 he).1
          have hit : i < t := by omega
          have h1 := p3 i _ (List.getElem?_eq_getElem hi1) (HP3'.out i _ hit (List.getElem?_eq_getElem hi1))
          rw [he] at h1
          obtain rfl := Option.some.inj h1
          exact HP3'.out i _ hit (List.getElem?_eq_getElem hi1)
    have HF := shut hfin
    have ZZ3 := ZZ2.trans z3
    clear hfin hnew hmk p1 p2 p3 hst3 hrg3 hd3 hd3b hd3e z3 S3
    go_wp2_with fail
    go_roundw
    case rel => exact ⟨t + 1, by go_num, by omega, ZZ3, HF⟩
    case measure => (simp [intOf]; try omega)
/-- bare, whatever statements. -/
theorem bare_any (l : List StD) : BareC l := by
  have key : ∀ d : StD, BareC d.thn ∧ BareC d.els := by
    intro d
    refine StD.ind (P := fun d => BareC d.thn ∧ BareC d.els) ?_ d
    intro x_kind x_pos x_mu x_name x_ty x_has x_place x_val x_cond x_thn x_els h1 h2
    exact ⟨bare_of h1, bare_of h2⟩
  exact bare_of (fun e _ => key e)

end Go.Proofs.Ytjbcagbnagefcaa

namespace Go.Proofs.Ytjbcagbnagefcaa
open Go.RowKit

attribute [local irreducible] wpMix wpMixB wpList
attribute [local go_sem ↓] exec_mid_ty exec_store_ty exec_mid_pl exec_store_pl exec_mid_opr exec_store_opr exec_mid_val exec_store_val exec_mid_st exec_store_st exec_mid_fld exec_store_fld exec_mid_str exec_store_str exec_mid_lif exec_store_lif exec_mid_fun exec_store_fun exec_mid_cr exec_store_cr
attribute [local go_sem ↓] exec_into_pl exec_into_opr exec_into_ty exec_into_val
attribute [local go_sem] rowOk_new World.setRow_alloc_new

theorem newA_le {N M : Nat} {w : World} (h : N ≤ M) : ∀ b, NewA M w b → NewA N w b := fun _ hb => ⟨Nat.le_trans h hb.1, hb.2⟩
/-- A function whose parts lie in blocks of S, its statements apart. -/
def Fun2S (S : Nat → Prop) (w : World) (d : FunD) (cs : List Value) : Prop := ∃ (a2 : Option Addr) (c2 : Nat) (a3 : Option Addr) (c3 : Nat) (s4 : List Value) (a8 : Option Addr) (c8 : Nat), cs = [.bool d.pub, txV d.name, .slice a2 (d.lives).length c2, .slice a3 (d.params).length c3] ++ s4 ++ [.slice a8 (d.body).length c8, .int .i64 d.pos] ∧ (d.name).length ≤ bigN ∧ SlIs (offB S w) w 2 (LifIs (offB S w) w) a2 (d.lives) ∧ SlIs (offB S w) w 6 (FldIs (offB S w) w) a3 (d.params) ∧ TyIs (offB S w) w (d.result) s4 ∧ Sl2 S w a8 (d.body) ∧ ∀ g, blockOf a3 = some g → S g ∧ fldB w g
theorem Fun2S.f {S : Nat → Prop} {w : World} {d : FunD} {cs : List Value} (h : Fun2S S w d cs) : FunIs S w d cs := by
  obtain ⟨a2, c2, a3, c3, s4, a8, c8, hcs, h0, h1, h2, h3, h4, -⟩ := h
  have K : Keeps Nothing w w := Keeps.refl _ _
  have hS : ∀ b, offB S w b → S b := fun _ h => h.1
  exact ⟨a2, c2, a3, c3, s4, a8, c8, hcs, h0, h1.keeps K (fun _ _ h => h) hS (fun _ _ _ h => h.keeps K (fun _ _ h => h) hS), h2.keeps K (fun _ _ h => h) hS (fun _ _ _ h => h.keeps K (fun _ _ h => h) hS), h3.keeps K (fun _ _ h => h) hS, h4.sl⟩
theorem Fun2S.keeps {S S' T : Nat → Prop} {w w' : World} {d : FunD} {cs : List Value} (h : Fun2S S w d cs) (K : Keeps T w w') (hT : ∀ b, S b → ¬ T b) (hS : ∀ b, S b → S' b) : Fun2S S' w' d cs := by
  obtain ⟨a2, c2, a3, c3, s4, a8, c8, hcs, h0, h1, h2, h3, h4, h5⟩ := h
  have hT' : ∀ b, offB S w b → ¬ T b := fun b h => hT b h.1
  have hS' := offB_keeps K hT hS
  exact ⟨a2, c2, a3, c3, s4, a8, c8, hcs, h0, h1.keeps K hT' hS' (fun _ _ _ h => h.keeps K hT' hS'), h2.keeps K hT' hS' (fun _ _ _ h => h.keeps K hT' hS'), h3.keeps K hT' hS', h4.keeps K hT hS, fun g hg => by
    obtain ⟨q1, q2, q3⟩ := h5 g hg
    exact ⟨hS g q1, q2, K.blk q3 (hT g q1)⟩⟩
theorem fun2Ok : LayOk 10 Fun2S := ⟨fun _ _ _ _ h => h.f.len, fun _ _ _ _ h => h.f.one, fun _ _ _ _ _ _ _ h => h.keeps⟩
/-- A crate that was built: new since N, its functions' parts apart from their row. -/
def CrN (N : Nat) (w : World) (d : CrD) (cs : List Value) : Prop := ∃ (a0 : Option Addr) (c0 : Nat) (a1 : Option Addr) (c1 : Nat), cs = [.slice a0 (d.structs).length c0, .slice a1 (d.funcs).length c1] ∧ SlIs (NewA N w) w 5 (StrIs (NewA N w) w) a0 d.structs ∧ d.funcs.length ≤ bigN ∧ OutR (NewA N) 36 10 Fun2S N w a1 c1 d.funcs
theorem CrN.cr {N : Nat} {w : World} {d : CrD} {cs : List Value} (h : CrN N w d cs) : CrIs (NewA N w) w d cs := by
  obtain ⟨a0, c0, a1, c1, hcs, h0, h1, h2⟩ := h
  refine ⟨a0, c0, a1, c1, hcs, h0, ?_⟩
  have := h2.sl (S := NewA N w) fun2Ok (fun _ h => h) (fun g hg => ⟨h2.new g hg, h2.lt hg⟩) h1
  exact this.keeps (Keeps.refl Nothing w) (fun _ _ h => h) (fun _ h => h) (fun _ _ _ h => h.f)
theorem OutR.weak {α : Type} {Z Z' : World → Nat → Prop} {e : TypeId} {k : Nat} {P : (Nat → Prop) → World → α → List Value → Prop} {M M' : Nat} {w : World} {ao : Option Addr} {cap : Nat} {out : List α} (h : OutR Z e k P M w ao cap out) (hP : LayOk k P) (hZ : ∀ b, Z w b → Z' w b) (hM : M' ≤ M) : OutR Z' e k P M' w ao cap out := by
  obtain ⟨L, o, hl, he⟩ := h.row
  refine ⟨⟨L, o, hl, fun j d hd => ?_⟩, fun g hg => Nat.le_trans hM (h.new g hg)⟩
  obtain ⟨cs, e1, e2⟩ := he j d hd
  exact ⟨cs, e1, hP.keep _ _ _ _ _ _ _ e2 (Keeps.refl Nothing w) (fun _ _ h => h) (fun b hb => ⟨hZ b hb.1, hb.2⟩)⟩
theorem Sl2.smallQ {S : Nat → Prop} {w : World} {ao : Option Addr} {l : List StD} (h : Sl2 S w ao l) (hq : ∀ d ∈ l, ∀ cs, St2 S w d cs → St2 (fun b => S b ∧ b < w.heap.size) w d cs) : Sl2 (fun b => S b ∧ b < w.heap.size) w ao l := by
  refine ⟨h.1, ?_⟩
  rcases h.2 with h | ⟨b, h1, h2, h3⟩
  · exact .inl h
  · exact .inr ⟨b, h1, ⟨⟨h2.1, stB_lt h2.2⟩, h2.2⟩, rowIs_keeps h3 (Keeps.refl Nothing w) (fun h => h) hq⟩
theorem St2.small {S : Nat → Prop} {w : World} {d : StD} {cs : List Value} (h : St2 S w d cs) : St2 (fun b => S b ∧ b < w.heap.size) w d cs := by
  refine StD.ind (P := fun d => ∀ cs, St2 S w d cs → St2 (fun b => S b ∧ b < w.heap.size) w d cs) ?_ d cs h
  clear h cs d
  intro x_kind x_pos x_mu x_name x_ty x_has x_place x_val x_cond x_thn x_els ih_thn ih_els cs h
  rw [st2_iff] at h ⊢
  obtain ⟨s4, s9, s11, s26, a30, c30, a31, c31, rfl, h0, h1, h2, h3, h4, h5, h6⟩ := h
  have K : Keeps Nothing w w := Keeps.refl _ _
  have hS : ∀ b, offB S w b → offB (fun b => S b ∧ b < w.heap.size) w b := fun b h => ⟨⟨h.1, h.2.1⟩, h.2⟩
  exact ⟨s4, s9, s11, s26, a30, c30, a31, c31, rfl, h0, h1.keeps K (fun _ _ h => h) hS, h2.keeps K (fun _ _ h => h) hS, h3.keeps K (fun _ _ h => h) hS, h4.keeps K (fun _ _ h => h) hS, h5.smallQ (fun e he cs hc => ih_thn e he cs hc), h6.smallQ (fun e he cs hc => ih_els e he cs hc)⟩
theorem Sl2.small {S : Nat → Prop} {w : World} {ao : Option Addr} {l : List StD} (h : Sl2 S w ao l) : Sl2 (fun b => S b ∧ b < w.heap.size) w ao l := h.smallQ (fun _ _ _ h => h.small)
theorem zr_off {N : Nat} {w w' : World} (z : Zr N w w') : ∀ b, NewB N w b → offB (NewA N w') w' b := fun b h =>
  ⟨⟨h.1, by rw [z.size]; exact h.2.1⟩, by rw [z.size]; exact h.2.1, fun q => h.2.2 (z.st.1 q)⟩
theorem zr_no {N : Nat} {w : World} : ∀ b, NewB N w b → ¬ (N ≤ b ∧ stB w b) := fun _ h q => h.2.2 q.2
def CBare (w : World) (d : CrD) (e : Ending) (w' : World) : Prop := ∃ cs : List Value, e = .returned (.agg cs.toArray) ∧ Keeps Nothing w w' ∧ CrN w.heap.size w' d cs

set_option maxRecDepth 100000 in
set_option linter.unusedSimpArgs false in
set_option maxHeartbeats 8000000 in
theorem bare_crate {S : Nat → Prop} (d : CrD) (w : World) (cs : List Value) (h : CrIs S w d cs) : Calls Try.prog 11 #[.agg cs.toArray] w (CBare w (bareC d)) := by
  have ag1 := agg_ok h.len h.one
  obtain ⟨d_structs, d_funcs⟩ := d
  obtain ⟨a0, c0, a1, c1, hcs, h0, h1⟩ := h
  simp only at hcs h0 h1
  obtain ⟨ns, hns⟩ : ∃ ns, d_structs.length = ns := ⟨_, rfl⟩
  obtain ⟨nf, hnf⟩ : ∃ nf, d_funcs.length = nf := ⟨_, rfl⟩
  rw [hns, hnf] at hcs
  have HNS := shut hns
  have HNF := shut hnf
  have HL0 := shut h0
  have HL1 := shut h1
  have hnsb : ns ≤ 100000000 := by have := h0.1; unfold bigN at this; omega
  have hnfb : nf ≤ 100000000 := by have := h1.1; unfold bigN at this; omega
  obtain ⟨C, hC⟩ : ∃ C, C = cs.toArray := ⟨_, rfl⟩
  rw [← hC] at ag1 ⊢
  rw [hcs] at hC
  have GC := shut hC
  clear hC hcs hns hnf h0 h1
  have B1 := blk_alloc (blk_alloc (blk_new w C 25) (.cells #[.slice none 0 0, .slice none 0 0] 25)) (.cells #[.slice none 0 0, .slice none 0 0] 25)
  have B2 := blk_alloc (blk_new (w.alloc (.cells C 25)) #[.slice none 0 0, .slice none 0 0] 25) (.cells #[.slice none 0 0, .slice none 0 0] 25)
  have B3 := blk_new ((w.alloc (.cells C 25)).alloc (.cells #[.slice none 0 0, .slice none 0 0] 25)) #[.slice none 0 0, .slice none 0 0] 25
  have KW : Keeps Nothing w (((w.alloc (.cells C 25)).alloc (.cells #[.slice none 0 0, .slice none 0 0] 25)).alloc (.cells #[.slice none 0 0, .slice none 0 0] 25)) := (((Keeps.refl Nothing w).alloc _).alloc _).alloc _
  have hm : (((w.alloc (.cells C 25)).alloc (.cells #[.slice none 0 0, .slice none 0 0] 25)).alloc (.cells #[.slice none 0 0, .slice none 0 0] 25)).heap.size = w.heap.size + 1 + 1 + 1 := by rw [World.size_alloc, World.size_alloc, World.size_alloc]
  rw [World.size_alloc] at B2
  rw [World.size_alloc, World.size_alloc] at B3
  go_enter Try.func11, Try.ntmps11
  go_upto_region 2 with fail
  clear ag1
  generalize (((w.alloc (.cells C 25)).alloc (.cells #[.slice none 0 0, .slice none 0 0] 25)).alloc (.cells #[.slice none 0 0, .slice none 0 0] 25)) = w0 at *
  have HG1 : Shut (w.heap.size ≤ w.heap.size) := shut (Nat.le_refl _)
  have HG2 : Shut (w.heap.size ≤ w.heap.size + 1) := shut (by omega)
  have HG3 : Shut (w.heap.size ≤ w.heap.size + 1 + 1) := shut (by omega)
  have n13 : w.heap.size ≠ w.heap.size + 1 + 1 := by omega
  have n23 : w.heap.size + 1 ≠ w.heap.size + 1 + 1 := by omega
  have n12 : w.heap.size ≠ w.heap.size + 1 := by omega
  have l1 : w.heap.size < w0.heap.size := by omega
  have l2 : w.heap.size + 1 < w0.heap.size := by omega
  have l3 : w.heap.size + 1 + 1 < w0.heap.size := by omega
  have HW0 : Shut (w.heap.size ≤ w0.heap.size) := shut (by omega)
  clear hm
  obtain ⟨g1, hg1⟩ : ∃ g, w.heap.size = g := ⟨_, rfl⟩
  obtain ⟨g2, hg2⟩ : ∃ g, w.heap.size + 1 = g := ⟨_, rfl⟩
  obtain ⟨g3, hg3⟩ : ∃ g, w.heap.size + 1 + 1 = g := ⟨_, rfl⟩
  rw [hg3] at B3 HG3 n13 n23 l3 ⊢
  rw [hg2] at B2 HG2 n23 n12 l2 ⊢
  have HG1' : Shut (w.heap.size ≤ g1) := shut (Nat.le_of_eq hg1)
  rw [hg1] at B1 n13 n12 l1 ⊢
  clear HG1
  have HG1 := HG1'
  clear HG1' hg1 hg2 hg3
  have c10 := blk_cell B1 0 (v := .slice a0 ns c0) (by rw [GC.out]; rfl)
  have N0 : ∀ b, NewB w0.heap.size w0 b → b ≠ g3 := fun b hb q => by have := hb.1; omega
  have H0 : Shut (∃ (ao : Option Addr) (cap : Nat), Blk w0 g3 #[.slice ao 0 cap, .slice none 0 0] 25 ∧ OutR (NewB w0.heap.size) 48 5 StrIs w0.heap.size w0 ao cap ((d_structs.take 0).map bareStr)) := shut ⟨none, 0, B3, outR_nil _ _ _ _ _ _⟩
  go_wp2_with fail
  go_loopw [11] (fun s11 wx => ∃ t : Nat, s11 = .int .i64 t ∧ t ≤ ns ∧ Keeps (fun b => b = g3 ∨ w0.heap.size ≤ b) w0 wx ∧ Shut (∃ (ao : Option Addr) (cap : Nat), Blk wx g3 #[.slice ao t cap, .slice none 0 0] 25 ∧ OutR (NewB w0.heap.size) 48 5 StrIs w0.heap.size wx ao cap ((d_structs.take t).map bareStr))) (fun s11 _ => ns - (intOf s11).toNat)
  case atStart => exact ⟨0, rfl, Nat.zero_le _, Keeps.refl _ _, H0⟩
  case round =>
    obtain ⟨t, rfl, ht, KL, HO⟩ := hrel
    clear H0
    obtain ⟨ao, cap, B3r, HO⟩ := HO.out
    have HO := shut HO
    have k0r : Keeps Nothing w wr := KW.trans KL (fun b hb hlt => by rcases hb with rfl | hb; have := HG3.out; omega; have := HW0.out; omega)
    by_cases hlt : t < ns
    · have m0 : (0 : Int) ≤ t := by omega
      have m1 : (t : Int) < ns := by omega
      obtain ⟨x, hx⟩ : ∃ x, d_structs[t]? = some x := ⟨_, List.getElem?_eq_getElem (by rw [HNS.out]; exact hlt)⟩
      obtain ⟨gl, ol, rfl, -, cs, hl1, r1, i1⟩ := (HL0.out.keeps (S' := S) (Q := StrIs S wr) k0r (fun _ _ h => h) (fun _ h => h) (fun _ _ _ h => h.keeps k0r (fun _ _ h => h) (fun _ h => h))).get hx
      have HX := shut hx
      clear hx
      have hk := midOk_range r1
      have ho := midOf_range r1
      rw [hl1] at hk ho
      have ag2 := agg_ok hl1 i1.one
      have kx1 : Keeps Nothing wr (wr.alloc (.cells cs.toArray 48)) := (Keeps.refl Nothing wr).alloc _
      have hcl := cstruct_any x _ cs (i1.keeps kx1 (fun _ _ h => h) (fun _ h => h))
      have BX := blk_new wr cs.toArray 48
      have hsx : cs.toArray.size = 5 := by simpa using hl1
      have hw01 : wr.heap.size ≤ (wr.alloc (.cells cs.toArray 48)).heap.size := kx1.size
      obtain ⟨Cx, hCx⟩ : ∃ Cx, cs.toArray = Cx := ⟨_, rfl⟩
      rw [hCx] at hcl BX hsx kx1 ho ag2 hw01
      clear hCx i1 r1 hl1
      go_upto_region 5 with fail
      clear hk ho ag2
      generalize wr.alloc (.cells Cx 48) = w1 at *
      have hgx := lt_of_block BX
      obtain ⟨gx, hgx0⟩ : ∃ gx, wr.heap.size = gx := ⟨_, rfl⟩
      have HGX : Shut (wr.heap.size ≤ gx) := shut (Nat.le_of_eq hgx0)
      have hg3r : g3 < wr.heap.size := lt_of_block B3r
      rw [hgx0] at BX hgx hg3r ⊢
      clear hgx0
      obtain ⟨z1, z2⟩ := tblk_mid BX hsx
      go_wp2_with fail
      refine hcl.mono ?_
      rintro e w2 ⟨cs2, rfl, k2, hN⟩
      obtain ⟨b2, d2, b3, d3, hcs2, hxn, q2, q3⟩ := hN
      have hlc2 : cs2.length = 5 := by rw [hcs2]; rfl
      have agc := agg_ok hlc2 (by rw [hcs2]; intro u hu; simp only [List.mem_cons, List.not_mem_nil, or_false] at hu; rcases hu with rfl | rfl | rfl | rfl | rfl <;> rfl)
      have BX2 := k2.blk BX (fun h => h)
      have y2 := rowOk_blk BX2 hsx
      obtain ⟨C2, hC2⟩ : ∃ C2, C2 = cs2.toArray := ⟨_, rfl⟩
      rw [← hC2] at agc ⊢
      rw [hcs2] at hC2
      have BX3 : Blk (w2.setRow gx C2) gx C2 48 := blk_setRow (cs := C2) BX2
      have c4 := blk_cell BX3 4 (v := .int .i64 x.pos) (by rw [hC2]; rfl)
      have f4 := blk_free BX3 4
      have BX4 : Blk ((w2.setRow gx C2).setCell ⟨gx, 4, none⟩ (.int .i64 0)) gx #[.bool x.pub, .string ⟨x.name.toArray⟩, .slice b2 x.lives.length d2, .slice b3 x.fields.length d3, .int .i64 0] 48 := by
        have h9 := blk_set BX3 4 (.int .i64 0)
        have e9 : C2.setIfInBounds 4 (.int .i64 0) = #[.bool x.pub, .string ⟨x.name.toArray⟩, .slice b2 x.lives.length d2, .slice b3 x.fields.length d3, .int .i64 0] := by rw [hC2]; rfl
        rwa [e9] at h9
      have KS : ∀ T : Nat → Prop, T gx → Keeps T w2 ((w2.setRow gx C2).setCell ⟨gx, 4, none⟩ (.int .i64 0)) := fun T hT => ((Keeps.refl T w2).setRow (g := gx) (fun _ => hT) C2).setCell (p := ⟨gx, 4, none⟩) (fun _ => hT) _
      have hN3 : StrIs (NewB w1.heap.size ((w2.setRow gx C2).setCell ⟨gx, 4, none⟩ (.int .i64 0))) ((w2.setRow gx C2).setCell ⟨gx, 4, none⟩ (.int .i64 0)) (bareStr x) ([.bool x.pub, .string ⟨x.name.toArray⟩, .slice b2 x.lives.length d2, .slice b3 x.fields.length d3, .int .i64 0] : List Value) :=
        ⟨b2, d2, b3, d3, rfl, hxn, txs_on q2 (KS _ hgx) (Nat.le_refl _), rows_on fldOk q3 (KS _ hgx) (Nat.le_refl _)⟩
      have kx : Keeps Nothing wr ((w2.setRow gx C2).setCell ⟨gx, 4, none⟩ (.int .i64 0)) := (kx1.trans k2 (fun _ h _ => h)).trans (KS (fun b => b = gx) rfl) (fun b hb hlt => by have hb' : b = gx := hb; have := HGX.out; omega)
      have hw12 : w1.heap.size ≤ ((w2.setRow gx C2).setCell ⟨gx, 4, none⟩ (.int .i64 0)).heap.size := Nat.le_trans k2.size (KS (fun _ => True) trivial).size
      have HN := shut hN3
      have HC2 := shut hC2
      have HCS2 := shut hcs2
      clear hcl hN3 q2 q3 hxn KS hC2 hcs2
      go_upto_region 7 with fail
      any_goals try (rename_i hfz; simp [f4] at hfz; done)
      clear c4 f4 y2 agc BX2 BX3 HC2 HCS2 hlc2 k2 kx1 z1 z2 BX
      generalize (w2.setRow gx C2).setCell ⟨gx, 4, none⟩ (.int .i64 0) = w3 at *
      have B3w := kx.blk B3r (fun h => h)
      have c30 := blk_cell B3w 0 (v := .slice ao t cap) rfl
      obtain ⟨z1, z2⟩ := tblk_mid BX4 (n := 5) rfl
      have BB := blk_new w3 #[.bool x.pub, .string ⟨x.name.toArray⟩, .slice b2 x.lives.length d2, .slice b3 x.fields.length d3, .int .i64 0] 48
      have kb : Keeps Nothing w3 (w3.alloc (.cells #[.bool x.pub, .string ⟨x.name.toArray⟩, .slice b2 x.lives.length d2, .slice b3 x.fields.length d3, .int .i64 0] 48)) := (Keeps.refl Nothing w3).alloc _
      have kx3 := kx.trans kb (fun _ h _ => h)
      have HO3 := shut (HO.out.keepsN (newB_ok _) strOk kx3)
      have hWr : w0.heap.size ≤ wr.heap.size := KL.size
      have hlao : ∀ g, blockOf ao = some g → g < wr.heap.size := fun g hg => HO.out.lt hg
      have hel : StrIs (InB (NewB w0.heap.size) (w3.alloc (.cells #[.bool x.pub, .string ⟨x.name.toArray⟩, .slice b2 x.lives.length d2, .slice b3 x.fields.length d3, .int .i64 0] 48)) ao) (w3.alloc (.cells #[.bool x.pub, .string ⟨x.name.toArray⟩, .slice b2 x.lives.length d2, .slice b3 x.fields.length d3, .int .i64 0] 48)) (bareStr x) ([.bool x.pub, .string ⟨x.name.toArray⟩, .slice b2 x.lives.length d2, .slice b3 x.fields.length d3, .int .i64 0] : List Value) := strOk.keep _ _ _ _ _ _ _ HN.out kb (fun _ _ h => h) (fun b hb => ⟨(newB_ok _).keep Nothing w3 (w3.alloc (.cells #[.bool x.pub, .string ⟨x.name.toArray⟩, .slice b2 x.lives.length d2, .slice b3 x.fields.length d3, .int .i64 0] 48)) b kb (fun h => h) ⟨Nat.le_trans (Nat.le_trans hWr hw01) hb.1, hb.2⟩, fun q => by have := hlao b q; have := hb.1; omega⟩)
      have HEL := shut hel
      have hlt4 : w0.heap.size ≤ (w3.alloc (.cells #[.bool x.pub, .string ⟨x.name.toArray⟩, .slice b2 x.lives.length d2, .slice b3 x.fields.length d3, .int .i64 0] 48)).heap.size := Nat.le_trans (Nat.le_trans (Nat.le_trans hWr hw01) hw12) kb.size
      have htl : Shut (((d_structs.take t).map bareStr).length = t) := shut (by rw [List.length_map, List.length_take, HNS.out]; omega)
      have htb : t ≤ 1000000000 := by omega
      have HNEW := shut HO.out.new
      have HBB := shut BB
      have KX3 : Keeps (fun b => b = g3 ∨ w0.heap.size ≤ b) w0 (w3.alloc (.cells #[.bool x.pub, .string ⟨x.name.toArray⟩, .slice b2 x.lives.length d2, .slice b3 x.fields.length d3, .int .i64 0] 48)) := KL.trans kx3 (fun _ h _ => h.elim)
      have B3x := kb.blk B3w (fun h => h)
      clear hel BB KL HO kx3 kb HN
      go_wp2_with (at_builtin; refine wpList_appD _ rfl (.tmp 19) (.tmp 21) 22 rfl Try.underlying22 iaStr (by decide) (newB_ok _) strOk t htl.out rfl HO3.out hlt4 _ _ ([.bool x.pub, .string ⟨x.name.toArray⟩, .slice b2 x.lives.length d2, .slice b3 x.fields.length d3, .int .i64 0] : List Value) (bareStr x) rfl rfl HBB.out HEL.out htb ?_)
      intro a4 c4 w4 O4 k4 m4
      have hg3n : ¬ blockOf ao = some g3 := fun q => by have := HNEW.out g3 q; omega
      have B3y := k4.blk B3x hg3n
      have c3y := blk_cell B3y 0 (v := .slice ao t cap) rfl
      have f3y := blk_free B3y 0
      have k5 : Keeps (fun b => b = g3) w4 (w4.setCell ⟨g3, 0, none⟩ (.slice a4 (t + 1) c4)) := (Keeps.refl (fun b => b = g3) w4).setCell (p := ⟨g3, 0, none⟩) (fun _ => rfl) _
      have B3z : Blk (w4.setCell ⟨g3, 0, none⟩ (.slice a4 (t + 1) c4)) g3 #[.slice a4 (t + 1) c4, .slice none 0 0] 25 := blk_set B3y 0 (.slice a4 (t + 1) c4)
      have O5 : OutR (NewB w0.heap.size) 48 5 StrIs w0.heap.size (w4.setCell ⟨g3, 0, none⟩ (.slice a4 (t + 1) c4)) a4 c4 ((d_structs.take (t + 1)).map bareStr) := by
        have h1 : (d_structs.take (t + 1)).map bareStr = (d_structs.take t).map bareStr ++ [bareStr x] := by rw [List.take_add_one, HX.out, List.map_append]; rfl
        rw [h1]
        have h2 := O4.keeps (newB_ok _) strOk k5 (fun b hb q => by have hq : b = g3 := q; have := hb.1; omega) (fun g hg q => by have hq : g = g3 := q; have := O4.new g hg; omega)
        first
          | exact h2
          | (rw [← List.map_take] at h2; exact h2)
      have KL4 := (KX3.trans k4 (fun g hg _ => .inr (HNEW.out g hg))).trans k5 (fun g hg _ => .inl hg)
      have HF : Shut (∃ (ao : Option Addr) (cap : Nat), Blk (w4.setCell ⟨g3, 0, none⟩ (.slice a4 (t + 1) c4)) g3 #[.slice ao (t + 1) cap, .slice none 0 0] 25 ∧ OutR (NewB w0.heap.size) 48 5 StrIs w0.heap.size (w4.setCell ⟨g3, 0, none⟩ (.slice a4 (t + 1) c4)) ao cap ((d_structs.take (t + 1)).map bareStr)) := shut ⟨a4, c4, B3z, O5⟩
      clear O4 O5 k4 m4 KX3 HO3 HEL HBB HNEW k5 B3z
      go_wp2_with fail
      any_goals try (rename_i hfz; simp [f3y] at hfz; done)
      go_roundw
      case rel => exact ⟨t + 1, by go_num, by omega, KL4, HF⟩
      case measure => (simp [intOf]; try omega)
    obtain rfl : t = ns := by omega
    have m1 : ¬ (t : Int) < t := by omega
    obtain ⟨wS, rfl⟩ : ∃ wS, wS = wr := ⟨_, rfl⟩
    have HOS : Shut (OutR (NewB w0.heap.size) 48 5 StrIs w0.heap.size wS ao cap (d_structs.map bareStr)) := shut (by have := HO.out; rwa [List.take_of_length_le (Nat.le_of_eq HNS.out)] at this)
    have HSS : Shut (SlIs (NewB w0.heap.size wS) wS 5 (StrIs (NewB w0.heap.size wS) wS) ao (d_structs.map bareStr)) := shut (outR_new HOS.out strOk (by decide) (Nat.le_refl _) (by rw [List.length_map, HNS.out]; unfold bigN; omega))
    have B1S := KL.blk B1 (fun q => by rcases q with q | q; exact n13 q; omega)
    have B2S := KL.blk B2 (fun q => by rcases q with q | q; exact n23 q; omega)
    have l3S : g3 < wS.heap.size := lt_of_block B3r
    have l2S : g2 < wS.heap.size := lt_of_block B2S
    have hw0S : w0.heap.size ≤ wS.heap.size := KL.size
    have HWS : Shut (w.heap.size ≤ wS.heap.size) := shut (Nat.le_trans HW0.out hw0S)
    have l02 : Shut (g2 < w0.heap.size) := shut l2
    have l03 : Shut (g3 < w0.heap.size) := shut l3
    have c11 := blk_cell B1S 1 (v := .slice a1 nf c1) (by rw [GC.out]; rfl)
    have H0 : Shut (∃ (ao2 : Option Addr) (cap2 : Nat), Blk wS g3 #[.slice ao t cap, .slice ao2 0 cap2] 25 ∧ OutR (NewA wS.heap.size) 36 10 Fun2S wS.heap.size wS ao2 cap2 ((d_funcs.take 0).map bareF)) := shut ⟨none, 0, B3r, outR_nil _ _ _ _ _ _⟩
    have KW := k0r
    clear HO HOS KL B1 B2 B3 l1 l2 c10 k0r N0 B3r
    go_wp2_with fail
    go_loopw [28] (fun s28 wx => ∃ t2 : Nat, s28 = .int .i64 t2 ∧ t2 ≤ nf ∧ Keeps (fun b => b = g3 ∨ wS.heap.size ≤ b) wS wx ∧ Shut (∃ (ao2 : Option Addr) (cap2 : Nat), Blk wx g3 #[.slice ao t cap, .slice ao2 t2 cap2] 25 ∧ OutR (NewA wS.heap.size) 36 10 Fun2S wS.heap.size wx ao2 cap2 ((d_funcs.take t2).map bareF))) (fun s28 _ => nf - (intOf s28).toNat)
    case atStart => exact ⟨0, rfl, Nat.zero_le _, Keeps.refl _ _, H0⟩
    case round =>
      obtain ⟨t2, rfl, ht2, KL, HO⟩ := hrel
      clear H0
      obtain ⟨ao2, cap2, B3r, HO⟩ := HO.out
      have HO := shut HO
      have k0r : Keeps Nothing w wr := KW.trans KL (fun b hb hlt => by rcases hb with rfl | hb; have := HG3.out; omega; have := HWS.out; omega)
      by_cases hlt2 : t2 < nf
      · have m0 : (0 : Int) ≤ t2 := by omega
        have m2 : (t2 : Int) < nf := by omega
        obtain ⟨x, hx⟩ : ∃ x, d_funcs[t2]? = some x := ⟨_, List.getElem?_eq_getElem (by rw [HNF.out]; exact hlt2)⟩
        obtain ⟨gl, ol, rfl, -, cs, hl1, r1, i1⟩ := (HL1.out.keeps (S' := S) (Q := FunIs S wr) k0r (fun _ _ h => h) (fun _ h => h) (fun _ _ _ h => h.keeps k0r (fun _ _ h => h) (fun _ h => h))).get hx
        have HX := shut hx
        clear hx
        have hk := midOk_range r1
        have ho := midOf_range r1
        rw [hl1] at hk ho
        have ag2 := agg_ok hl1 i1.one
        have kx1 : Keeps Nothing wr (wr.alloc (.cells cs.toArray 36)) := (Keeps.refl Nothing wr).alloc _
        have hcl := cfunc_any x _ cs (i1.keeps kx1 (fun _ _ h => h) (fun _ h => h))
        have BX := blk_new wr cs.toArray 36
        have hsx : cs.toArray.size = 10 := by simpa using hl1
        have hw01 : wr.heap.size ≤ (wr.alloc (.cells cs.toArray 36)).heap.size := kx1.size
        obtain ⟨Cx, hCx⟩ : ∃ Cx, cs.toArray = Cx := ⟨_, rfl⟩
        rw [hCx] at hcl BX hsx kx1 ho ag2 hw01
        clear hCx i1 r1 hl1
        go_upto_region 12 with fail
        clear hk ho ag2
        generalize wr.alloc (.cells Cx 36) = w1 at *
        have hgx := lt_of_block BX
        obtain ⟨gx, hgx0⟩ : ∃ gx, wr.heap.size = gx := ⟨_, rfl⟩
        have HGX : Shut (wr.heap.size ≤ gx) := shut (Nat.le_of_eq hgx0)
        have hg3r : g3 < wr.heap.size := lt_of_block B3r
        rw [hgx0] at BX hgx hg3r ⊢
        clear hgx0
        obtain ⟨z1, z2⟩ := tblk_mid BX hsx
        go_wp2_with fail
        refine hcl.mono ?_
        rintro e w2 ⟨cs2, rfl, k2, hN⟩
        have hlc2 := hN.f.len
        have agc := agg_ok hlc2 hN.one
        obtain ⟨b2, d2, b3, d3, s4, b8, d8, hcs2, hxn, q2, q3, q4, q8, qf⟩ := hN
        have al_ty := q4.len
        unfold txV at hcs2
        have BX2 := k2.blk BX (fun h => h)
        have y2 := rowOk_blk BX2 hsx
        obtain ⟨C2, hC2⟩ : ∃ C2, C2 = cs2.toArray := ⟨_, rfl⟩
        rw [← hC2] at agc ⊢
        rw [hcs2] at hC2
        have BX3 : Blk (w2.setRow gx C2) gx C2 36 := blk_setRow (cs := C2) BX2
        obtain ⟨-, -, -, -, -, -, c9⟩ := FunB al_ty hC2 BX3
        have f9 := blk_free BX3 9
        obtain ⟨nb, hnb⟩ : ∃ nb, x.body.length = nb := ⟨_, rfl⟩
        have HNB := shut hnb
        rw [hnb] at hC2
        clear hnb
        have BX4 : Blk ((w2.setRow gx C2).setCell ⟨gx, 9, none⟩ (.int .i64 0)) gx (([.bool x.pub, .string ⟨x.name.toArray⟩, .slice b2 x.lives.length d2, .slice b3 x.params.length d3] : List Value) ++ s4 ++ ([.slice b8 nb d8, .int .i64 0] : List Value)).toArray 36 := by
          have e1 : (([.bool x.pub, .string ⟨x.name.toArray⟩, .slice b2 x.lives.length d2, .slice b3 x.params.length d3] : List Value) ++ s4 ++ ([.slice b8 nb d8, .int .i64 0] : List Value)) = (([.bool x.pub, .string ⟨x.name.toArray⟩, .slice b2 x.lives.length d2, .slice b3 x.params.length d3] : List Value) ++ s4 ++ ([.slice b8 nb d8] : List Value)) ++ (.int .i64 0 :: []) := by simp
          rw [e1]
          exact box_set (v := .int .i64 x.pos) BX3 (by rw [hC2]; simp) (by simp [al_ty])
        have KS : ∀ T : Nat → Prop, T gx → Keeps T w2 ((w2.setRow gx C2).setCell ⟨gx, 9, none⟩ (.int .i64 0)) := fun T hT => ((Keeps.refl T w2).setRow (g := gx) (fun _ => hT) C2).setCell (p := ⟨gx, 9, none⟩) (fun _ => hT) _
        have kx : Keeps Nothing wr ((w2.setRow gx C2).setCell ⟨gx, 9, none⟩ (.int .i64 0)) := (kx1.trans k2 (fun _ h _ => h)).trans (KS (fun b => b = gx) rfl) (fun b hb hlt => by have hb' : b = gx := hb; have := HGX.out; omega)
        have hw12 : w1.heap.size ≤ ((w2.setRow gx C2).setCell ⟨gx, 9, none⟩ (.int .i64 0)).heap.size := Nat.le_trans k2.size (KS (fun _ => True) trivial).size
        have Q2 := shut (rows_on lifOk q2 (KS _ hgx) (Nat.le_refl _))
        have Q3 := shut (rows_on fldOk q3 (KS _ hgx) (Nat.le_refl _))
        have Q4 := shut (tyOk.on q4 (KS _ hgx) (Nat.le_refl _))
        have Q8 := shut (sl2_on q8 (KS _ hgx) (Nat.le_refl _))
        have QF := shut (fb_on qf (KS _ hgx) (Nat.le_refl _))
        clear qf
        have HXN := shut hxn
        have HC2 := shut hC2
        have HCS2 := shut hcs2
        clear hcl q2 q3 q4 q8 hxn KS hC2 hcs2
        go_upto_region 14 with fail
        any_goals try (rename_i hfz; simp [f9] at hfz; done)
        clear c9 f9 y2 agc BX2 BX3 HC2 HCS2 hlc2 k2 kx1 z1 z2 BX
        generalize (w2.setRow gx C2).setCell ⟨gx, 9, none⟩ (.int .i64 0) = wT at *
        obtain ⟨cz, hcz⟩ : ∃ cz, (([.bool x.pub, .string ⟨x.name.toArray⟩, .slice b2 x.lives.length d2, .slice b3 x.params.length d3] : List Value) ++ s4 ++ ([.slice b8 nb d8, .int .i64 0] : List Value)) = cz := ⟨_, rfl⟩
        obtain ⟨-, -, -, -, -, c8, -⟩ := FunB al_ty rfl BX4
        have hba := bare_any x.body x.body rfl wT w1.heap.size b8 d8 (Q8.out.keeps (Keeps.refl Nothing wT) (fun _ _ h => h) (fun _ h => h.1))
        rw [HNB.out] at hba
        rw [hcz] at BX4
        go_wp2_with fail
        refine hba.mono ?_
        rintro e w3 ⟨rfl, z, S8⟩
        have kz := z.keeps
        have BX5 := kz.blk BX4 (fun q => by have := q.1; omega)
        have hlz : cz.length = 10 := by rw [← hcz]; simp [al_ty]
        have hN : Fun2S (NewA w1.heap.size w3) w3 (bareF x) cz := by
          refine ⟨b2, d2, b3, d3, s4, b8, d8, ?_, HXN.out, ?_, ?_, ?_, ?_, ?_⟩
          · rw [← hcz]
            show _ = ([.bool x.pub, txV x.name, .slice b2 x.lives.length d2, .slice b3 x.params.length d3] : List Value) ++ s4 ++ [.slice b8 (bareL x.body).length d8, .int .i64 0]
            rw [bareL_len, HNB.out]
            rfl
          · exact Q2.out.keeps kz zr_no (zr_off z) (fun _ _ _ h => h.keeps kz zr_no (zr_off z))
          · exact Q3.out.keeps kz zr_no (zr_off z) (fun _ _ _ h => h.keeps kz zr_no (zr_off z))
          · exact Q4.out.keeps kz zr_no (zr_off z)
          · exact S8.small
          · intro g hg
            obtain ⟨p1, p2, p3⟩ := QF.out g hg
            have p4 := kz.blk p3 (fun q => by obtain ⟨_, cu, hcu⟩ := q; exact absurd (blk_un p3 hcu) (by decide))
            exact ⟨⟨p1, lt_of_block p4⟩, p2, p4⟩
        have kx0 := kx
        have kx : Keeps Nothing wr w3 := kx0.trans kz (fun b hb hlt => by have := hb.1; have := hw01; omega)
        have hw120 := hw12
        have hw12 : w1.heap.size ≤ w3.heap.size := by rw [z.size]; exact hw120
        have agz := agg_ok hlz hN.f.one
        have HN := shut hN
        obtain ⟨Cz, hCz⟩ : ∃ Cz, Cz = cz.toArray := ⟨_, rfl⟩
        rw [← hCz] at BX5 agz
        have hsz : Cz.size = 10 := by rw [hCz]; simpa using hlz
        have GCz := shut hCz
        clear hba hN hcz hCz kx0 hw120 Q2 Q3 Q4 Q8 S8 z kz BX4 c8 hlz
        have B3w := kx.blk B3r (fun h => h)
        have c30 := blk_cell B3w 1 (v := .slice ao2 t2 cap2) rfl
        go_upto_region 15 with fail
        obtain ⟨z1, z2⟩ := tblk_mid BX5 hsz
        have BB := blk_new w3 Cz 36
        have kb : Keeps Nothing w3 (w3.alloc (.cells Cz 36)) := (Keeps.refl Nothing w3).alloc _
        have kx3 := kx.trans kb (fun _ h _ => h)
        have HO3 := shut (HO.out.keepsN (newA_ok _) fun2Ok kx3)
        have hWr : wS.heap.size ≤ wr.heap.size := KL.size
        have hlao : ∀ g, blockOf ao2 = some g → g < wr.heap.size := fun g hg => HO.out.lt hg
        have hel : Fun2S (InB (NewA wS.heap.size) (w3.alloc (.cells Cz 36)) ao2) (w3.alloc (.cells Cz 36)) (bareF x) cz := fun2Ok.keep _ _ _ _ _ _ _ HN.out kb (fun _ _ h => h) (fun b hb => ⟨(newA_ok _).keep Nothing w3 (w3.alloc (.cells Cz 36)) b kb (fun h => h) ⟨Nat.le_trans (Nat.le_trans hWr hw01) hb.1, hb.2⟩, fun q => by have := hlao b q; have := hb.1; omega⟩)
        have HEL := shut hel
        have hlt4 : wS.heap.size ≤ (w3.alloc (.cells Cz 36)).heap.size := Nat.le_trans (Nat.le_trans (Nat.le_trans hWr hw01) hw12) kb.size
        have htl : Shut (((d_funcs.take t2).map bareF).length = t2) := shut (by rw [List.length_map, List.length_take, HNF.out]; omega)
        have htb : t2 ≤ 1000000000 := by omega
        have HNEW := shut HO.out.new
        have HBB := shut BB
        have KX3 : Keeps (fun b => b = g3 ∨ wS.heap.size ≤ b) wS (w3.alloc (.cells Cz 36)) := KL.trans kx3 (fun _ h _ => h.elim)
        have B3x := kb.blk B3w (fun h => h)
        clear hel BB KL HO kx3 kb HN
        go_wp2_with (at_builtin; rw [fillN (n := 10) rfl hsz]; refine wpList_appD _ rfl (.tmp 39) (.tmp 41) 23 rfl Try.underlying23 iaFun (by decide) (newA_ok _) fun2Ok t2 htl.out rfl HO3.out hlt4 _ _ cz (bareF x) GCz.out rfl HBB.out HEL.out htb ?_)
        intro a4 c4 w4 O4 k4 m4
        have hg3n : ¬ blockOf ao2 = some g3 := fun q => by have := HNEW.out g3 q; omega
        have B3y := k4.blk B3x hg3n
        have c3y := blk_cell B3y 1 (v := .slice ao2 t2 cap2) rfl
        have f3y := blk_free B3y 1
        have k5 : Keeps (fun b => b = g3) w4 (w4.setCell ⟨g3, 1, none⟩ (.slice a4 (t2 + 1) c4)) := (Keeps.refl (fun b => b = g3) w4).setCell (p := ⟨g3, 1, none⟩) (fun _ => rfl) _
        have B3z : Blk (w4.setCell ⟨g3, 1, none⟩ (.slice a4 (t2 + 1) c4)) g3 #[.slice ao t cap, .slice a4 (t2 + 1) c4] 25 := blk_set B3y 1 (.slice a4 (t2 + 1) c4)
        have O5 : OutR (NewA wS.heap.size) 36 10 Fun2S wS.heap.size (w4.setCell ⟨g3, 1, none⟩ (.slice a4 (t2 + 1) c4)) a4 c4 ((d_funcs.take (t2 + 1)).map bareF) := by
          have h1 : (d_funcs.take (t2 + 1)).map bareF = (d_funcs.take t2).map bareF ++ [bareF x] := by rw [List.take_add_one, HX.out, List.map_append]; rfl
          rw [h1]
          have h2 := O4.keeps (newA_ok _) fun2Ok k5 (fun b hb q => by have hq : b = g3 := q; have := hb.1; omega) (fun g hg q => by have hq : g = g3 := q; have := O4.new g hg; omega)
          first
            | exact h2
            | (rw [← List.map_take] at h2; exact h2)
        have KL4 := (KX3.trans k4 (fun g hg _ => .inr (HNEW.out g hg))).trans k5 (fun g hg _ => .inl hg)
        have HF : Shut (∃ (ao2 : Option Addr) (cap2 : Nat), Blk (w4.setCell ⟨g3, 1, none⟩ (.slice a4 (t2 + 1) c4)) g3 #[.slice ao t cap, .slice ao2 (t2 + 1) cap2] 25 ∧ OutR (NewA wS.heap.size) 36 10 Fun2S wS.heap.size (w4.setCell ⟨g3, 1, none⟩ (.slice a4 (t2 + 1) c4)) ao2 cap2 ((d_funcs.take (t2 + 1)).map bareF)) := shut ⟨a4, c4, B3z, O5⟩
        clear O4 O5 k4 m4 KX3 HO3 HEL HBB HNEW k5 B3z
        go_wp2_with fail
        any_goals try (rename_i hfz; simp [f3y] at hfz; done)
        go_roundw
        case rel => exact ⟨t2 + 1, by go_num, by omega, KL4, HF⟩
        case measure => (simp [intOf]; try omega)
      obtain rfl : t2 = nf := by omega
      have m2 : ¬ (t2 : Int) < t2 := by omega
      have HOF : Shut (OutR (NewA wS.heap.size) 36 10 Fun2S wS.heap.size wr ao2 cap2 (d_funcs.map bareF)) := shut (by have := HO.out; rwa [List.take_of_length_le (Nat.le_of_eq HNF.out)] at this)
      have B2r := KL.blk B2S (fun q => by rcases q with q | q; exact n23 q; omega)
      obtain ⟨z1, z2⟩ := tblk_mid B3r (n := 2) rfl
      have y3 := rowOk_blk B2r (n := 2) rfl
      have agf : aggOk 2 (.agg #[.slice ao t cap, .slice ao2 t2 cap2]) = true := by simp [aggOk, Value.oneCell']
      have KF : Keeps Nothing w (wr.setRow g2 #[.slice ao t cap, .slice ao2 t2 cap2]) := k0r.setRow (g := g2) (fun h => absurd h (Nat.not_lt.2 HG2.out)) _
      have K2 : Keeps (fun b => b = g2) wr (wr.setRow g2 #[.slice ao t cap, .slice ao2 t2 cap2]) := (Keeps.refl (fun b => b = g2) wr).setRow (g := g2) (fun _ => rfl) _
      have hfin : CBare w (bareC ⟨d_structs, d_funcs⟩) (.returned (.agg #[.slice ao t cap, .slice ao2 t2 cap2])) (wr.setRow g2 #[.slice ao t cap, .slice ao2 t2 cap2]) := by
        refine ⟨[.slice ao t cap, .slice ao2 t2 cap2], rfl, KF, ao, cap, ao2, cap2, ?_, ?_, ?_, ?_⟩
        · show _ = [Value.slice ao (d_structs.map bareStr).length cap, .slice ao2 (d_funcs.map bareF).length cap2]
          rw [List.length_map, List.length_map, HNS.out, HNF.out]
        · have KSf : Keeps (fun b => b = g2 ∨ b = g3 ∨ wS.heap.size ≤ b) wS (wr.setRow g2 #[.slice ao t cap, .slice ao2 t2 cap2]) := (KL.mono (S' := fun b => b = g2 ∨ b = g3 ∨ wS.heap.size ≤ b) (fun b hb _ => .inr hb)).trans K2 (fun b hb _ => .inl hb)
          have hT : ∀ b, NewB w0.heap.size wS b → ¬ (b = g2 ∨ b = g3 ∨ wS.heap.size ≤ b) := fun b hb q => by
            have h1 := hb.1
            have h2 := hb.2.1
            have h3 := l02.out
            have h4 := l03.out
            omega
          have hS : ∀ b, NewB w0.heap.size wS b → NewA w.heap.size (wr.setRow g2 #[.slice ao t cap, .slice ao2 t2 cap2]) b := fun b hb => ⟨Nat.le_trans HW0.out hb.1, Nat.lt_of_lt_of_le hb.2.1 KSf.size⟩
          exact HSS.out.keeps KSf hT hS (fun _ _ _ h => h.keeps KSf hT hS)
        · show (d_funcs.map bareF).length ≤ bigN
          rw [List.length_map, HNF.out]
          unfold bigN
          omega
        · have h1 := HOF.out.keeps (newA_ok _) fun2Ok K2 (fun b hb q => by have hq : b = g2 := q; have := hb.1; omega) (fun g hg q => by have hq : g = g2 := q; have := HOF.out.new g hg; omega)
          exact h1.weak fun2Ok (newA_le HWS.out) HWS.out
      have HF := shut hfin
      have BF := blk_setRow (cs := #[.slice ao t cap, .slice ao2 t2 cap2]) B2r
      clear hfin HO HOF KF K2 KL k0r HSS KW
      go_wp2_with fail
      refine bodyPost_ret (v := .agg #[.slice ao t cap, .slice ao2 t2 cap2]) (results_cell_row rfl _ _ g2 _ _ (0, 0) _ rfl BF Try.underlying25 rfl (by rw [infoCr]; rfl)) rfl ?_
      exact HF.out



end Go.Proofs.Ytjbcagbnagefcaa
