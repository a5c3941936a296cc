/- Package manifest: Parse, walked. -/
import Derived.Test.YtiliajnijjkcdaaDoorMan14
namespace Go.Proofs.YtiliajnijjkcdaaDoor
open Go.RowKit

attribute [local go_sem ↓] exec_mid_src exec_store_src
attribute [local go_sem] rowOk_new World.setRow_alloc_new aggOk_src

theorem own8_bytes {w : World} {ao : Option Addr} {c : Nat} {bs : List UInt8} (h : Own8 w 5 ao c bs) : BytesAt w ao bs := by
  rcases h.2 with ⟨hv, hl⟩ | ⟨g, cap', cur, hv, _⟩
  · simp only [Value.slice.injEq] at hv
    exact ⟨fun _ => List.eq_nil_of_length_eq_zero hl, (fun a ha => by rw [hv.1] at ha; cases ha)⟩
  · simp only [Value.slice.injEq] at hv
    obtain ⟨rfl, _, rfl⟩ := hv
    refine ⟨(fun e => by cases e), fun a ha j x hj => ?_⟩
    obtain rfl := Option.some.inj ha
    have := own8_cell h hj
    rwa [Addr.add_lit, Nat.zero_add]
/-- The crates' row while the texts are put in. -/
def RowT (W : World) (out : List SrcD) (go : Nat) (i : Nat) (wx : World) : Prop :=
  ∃ cur : Array Value, Blk wx go cur 43 ∧ ∀ (j : Nat) (d : SrcD), out[j]? = some d → ∃ (a : Option Addr) (c : Nat), cur[j * 3]? = some (txV d.name) ∧ cur[j * 3 + 1]? = some (.slice a d.deps.length c) ∧ cur[j * 3 + 2]? = some (txV (if j < i then d.text else [])) ∧
    (d.deps.length ≤ c ∧ c ≤ maxLen) ∧ d.name.length ≤ bigN ∧ SlIs (strB W) W 1 TxIs a d.deps
theorem PS.rowT {N : Nat} {w : World} {g1 g3 : Nat} {go : Nat} {cap : Nat} {L : List (List Value)} {at' : Option Addr} {ct : Nat} {T : List TxR} {out : List SrcD} (h : PS N w g1 g3 (some ⟨go, 0, none⟩) cap L at' ct T out) : RowT w out go 0 w := by
  obtain ⟨cur, hb⟩ := h.own.blk
  refine ⟨cur, hb, fun j d hd => ?_⟩
  obtain ⟨cs, e1, a, c, e2, e3, _, e5, e6⟩ := h.elems j d hd
  have hr := h.own.range h.all3 e1
  subst e2
  refine ⟨a, c, ?_, ?_, ?_, e5, e3, e6⟩
  · have := blk_inv hb (hr 0 _ rfl); simpa using this
  · exact blk_inv hb (hr 1 _ rfl)
  · have := blk_inv hb (hr 2 _ rfl); simpa using this
theorem RowT.put {W wx : World} {out : List SrcD} {go i : Nat} (h : RowT W out go i wx) {d : SrcD} (hd : out[i]? = some d) : RowT W out go (i + 1) (wx.setCell ⟨go, i * 3 + 2, none⟩ (txV d.text)) := by
  obtain ⟨cur, hb, hc⟩ := h
  refine ⟨_, blk_set hb (i * 3 + 2) (txV d.text), fun j e he => ?_⟩
  obtain ⟨a, c, e1, e2, e3, e4⟩ := hc j e he
  refine ⟨a, c, ?_, ?_, ?_, e4⟩
  · rw [Array.getElem?_setIfInBounds, if_neg (by omega)]; exact e1
  · rw [Array.getElem?_setIfInBounds, if_neg (by omega)]; exact e2
  · rw [Array.getElem?_setIfInBounds]
    by_cases hj : i = j
    · subst hj
      rw [hd] at he
      obtain rfl := Option.some.inj he
      have hlt : i * 3 + 2 < cur.size := by
        rcases Nat.lt_or_ge (i * 3 + 2) cur.size with q | q
        · exact q
        · rw [Array.getElem?_eq_none q] at e3; cases e3
      rw [if_pos rfl, if_pos hlt, if_pos (by omega)]
    · rw [if_neg (by omega), e3]
      by_cases h1 : j < i
      · rw [if_pos h1, if_pos (by omega)]
      · rw [if_neg h1, if_neg (by omega)]
theorem RowT.sl {W wx : World} {out : List SrcD} {go : Nat} (h : RowT W out go out.length wx) (K : Keeps (fun b => b = go) W wx) (hgo : ∃ cur : Array Value, Blk W go cur 43) (hb : ∀ d ∈ out, d.text.length ≤ bigN) (hl : out.length ≤ bigN) : SlIs (fun _ => True) wx 3 (SrcIs (fun _ => True) wx) (some ⟨go, 0, none⟩) out := by
  obtain ⟨cur, hc, hr⟩ := h
  obtain ⟨cu, hcu⟩ := hgo
  refine ⟨hl, .inr ⟨go, 0, rfl, trivial, rowIs_mk fun j d hd => ?_⟩⟩
  obtain ⟨a, c, e1, e2, e3, e4, e5, e6⟩ := hr j d hd
  have hj := (List.getElem?_eq_some_iff.1 hd).1
  rw [if_pos hj] at e3
  refine ⟨[txV d.name, .slice a d.deps.length c, txV d.text], rfl, ?_, a, c, rfl, e5, hb d (List.mem_of_getElem? hd), e4, ?_⟩
  · intro t v ht
    rw [Nat.zero_add]
    match t, ht with
    | 0, ht => simp at ht; subst ht; exact blk_cell hc _ (by simpa using e1)
    | 1, ht => simp at ht; subst ht; exact blk_cell hc _ e2
    | 2, ht => simp at ht; subst ht; exact blk_cell hc _ e3
  · exact e6.keeps K (fun b ⟨cs, hb⟩ q => by have q' : b = go := q; subst q'; exact absurd (blk_unlike hb hcu) (by decide)) (fun _ _ => trivial) (fun _ _ _ h => h)

set_option maxRecDepth 100000 in
set_option linter.unusedSimpArgs false in
set_option maxHeartbeats 8000000 in
theorem parse_any (w : World) (s : List UInt8) (hM : MaxV w) (hs : s.length < 9223372036854775808) : Calls Tryd.prog 8 #[.string ⟨s.toArray⟩] w (ParsePost w (parseL s)) := by
  have hsz : (ByteArray.mk s.toArray).size = s.length := rfl
  by_cases hbig : 4194304 < s.length
  · have hr : parseL s = (5, 0, []) := by unfold parseL; rw [if_pos hbig]
    rw [hr]
    have m1 : (4194304 : Int) < s.length := by omega
    have hn := new_code 5 0 w
    obtain ⟨n, hnn⟩ : ∃ n, s.length = n := ⟨_, rfl⟩
    rw [hnn] at m1 hsz
    clear hM hs hbig hr hnn
    go_enter Tryd.func8, Tryd.ntmps8
    go_wp2_with fail
    refine hn.mono ?_
    rintro e w2 ⟨ev, rfl, k2, hev⟩
    rcases hev with ⟨h, _⟩ | ⟨hc, ⟨b, rfl⟩, hE⟩
    · exact absurd h (by decide)
    have hE := shut hE
    clear hn
    go_wp2_with fail
    go_ret2
    exact ⟨k2, .inr ⟨by decide, _, rfl, ⟨b, rfl⟩, hE.out⟩⟩
  have m1 : ¬ (4194304 : Int) < s.length := by omega
  have hr : parseL s = parseE (parseR 0 s []) := by unfold parseL; rw [if_neg hbig]
  rw [hr]
  have hs7 : s.length ≤ 10000000 := by omega
  have k0 : Keeps (fun b => w.heap.size ≤ b) w (((w.alloc (.cells #[.slice none 0 0] 24)).alloc (.cells #[.slice none 0 0] 53)).alloc (.cells #[.nilIface] 26)) := (((Keeps.refl _ w).alloc _).alloc _).alloc _
  have b1 := blk_alloc (blk_alloc (blk_new w #[.slice none 0 0] 24) (.cells #[.slice none 0 0] 53)) (.cells #[.nilIface] 26)
  have b3 := blk_alloc (blk_new (w.alloc (.cells #[.slice none 0 0] 24)) #[.slice none 0 0] 53) (.cells #[.nilIface] 26)
  have b2 := blk_new ((w.alloc (.cells #[.slice none 0 0] 24)).alloc (.cells #[.slice none 0 0] 53)) #[.nilIface] 26
  simp only [World.size_alloc] at b3 b2
  have hI0 : ParseI s w w.heap.size (w.heap.size + 1 + 1) (w.heap.size + 1) 0 (((w.alloc (.cells #[.slice none 0 0] 24)).alloc (.cells #[.slice none 0 0] 53)).alloc (.cells #[.nilIface] 26)) :=
    ⟨k0, Nat.zero_le _, [], ⟨Nat.zero_le _, fun d hd => by cases hd⟩, by rw [List.drop_zero], ⟨none, 0, [], none, 0, [], ⟨Nat.le_refl _, Nat.le_succ _, b1, b3, ownC_nil _ _ _, fun g hg => (by cases hg), rowR_nil _ _, fun g hg => (by cases hg), rfl, rfl, fun j d hd => (by simp at hd), fun j d hd => (by simp at hd), fun x hx => (by cases hx), fun x hx => (by simp at hx)⟩⟩, b2⟩
  have hln := lines_any s hs7 (.pointer (some ⟨w.heap.size, 0, none⟩)) (.pointer (some ⟨w.heap.size + 1 + 1, 0, none⟩)) (.pointer (some ⟨w.heap.size + 1, 0, none⟩)) _ (ParseI s w w.heap.size (w.heap.size + 1 + 1) (w.heap.size + 1)) (ParseE s w (w.heap.size + 1 + 1)) hI0
    (fun p W hp hI => parse1_any s hs7 (by omega) hM p hp hI)
  obtain ⟨n, hnn⟩ : ∃ n, s.length = n := ⟨_, rfl⟩
  rw [hnn] at m1 hsz hln
  have HN := shut hnn
  obtain ⟨R, hR⟩ : ∃ R, parseR 0 s [] = R := ⟨_, rfl⟩
  rw [hR]
  have HR := shut hR
  clear hM hs hbig hr hnn hs7 k0 b1 b2 b3 hI0 hR
  generalize hg1 : w.heap.size = g1 at *
  go_enter Tryd.func8, Tryd.ntmps8
  go_wp2_with fail
  refine hln.mono ?_
  rintro e W ⟨rfl, hor⟩
  clear hln
  have hg1' : w.heap.size ≤ g1 := Nat.le_of_eq hg1
  clear hg1
  have HGE : Shut (w.heap.size ≤ g1) := shut hg1'
  clear hg1'
  rcases hor with hI | hE
  · obtain ⟨K, _, out, hB, hpr, ⟨ao, cap, L, at', ct, T, P⟩, b2⟩ := hI
    have hRR : R = (0, 0, out) := by rw [← HR.out, hpr, ← HN.out, List.drop_length, parse_nil]
    subst hRR
    clear hpr HR
    have c2 := blk_cell b2 0 (v := .nilIface) rfl
    have c1 := blk_cell P.b1 0 (v := .slice ao L.length cap) rfl
    have hL := P.len
    have hTl := P.tlen
    have hBL := hB.1
    have PP := shut P
    have HB := shut hB
    have HK := shut K
    clear P hB K
    by_cases h0 : L.length = 0
    · have hout : out = [] := List.eq_nil_of_length_eq_zero (by rw [← hL]; exact h0)
      subst hout
      rw [h0] at c1
      have hn := new_code 40 0 W
      have hpe : parseE (0, 0, ([] : List SrcD)) = (40, 0, []) := rfl
      rw [hpe]
      clear hL hTl hBL h0 PP HB
      go_wp2_with fail
      refine hn.mono ?_
      rintro e w2 ⟨ev, rfl, k2, hev⟩
      rcases hev with ⟨h, _⟩ | ⟨hc, ⟨b, rfl⟩, hE⟩
      · exact absurd h (by decide)
      have hE := shut hE
      have b22 := k2.blk b2 (fun h => h)
      have c22 := blk_cell b22 0 (v := .nilIface) rfl
      have f22 := blk_free b22 0
      have h2lt := lt_of_block b2
      have kst : Keeps (fun i => i = g1 + 1 + 1) w2 (w2.setCell ⟨g1 + 1 + 1, 0, none⟩ (.iface 78 (.pointer (some ⟨b, 0, none⟩)))) := (Keeps.refl (fun i => i = g1 + 1 + 1) w2).setCell (p := ⟨g1 + 1 + 1, 0, none⟩) (fun _ => rfl) _
      have b2F := blk_set b22 0 (.iface 78 (.pointer (some ⟨b, 0, none⟩)))
      have c2F := blk_cell b2F 0 (v := (.iface 78 (.pointer (some ⟨b, 0, none⟩)))) rfl
      have KF := shut (keepsHi ((HK.out.trans k2 (fun _ h _ => h.elim)).trans kst (fun i hi _ => by have hi' : i = g1 + 1 + 1 := hi; have := HGE.out; show w.heap.size ≤ i; omega)))
      have EF := shut (((hE.out.keeps kst (fun i hi => by have hi' : i = g1 + 1 + 1 := hi; omega)).mono HK.out.size))
      clear hn c2 c1 b2 hE kst k2
      go_wp2_with fail
      any_goals try (rename_i hfz; simp [f22] at hfz; done)
      clear b22 c22 f22
      generalize w2.setCell ⟨g1 + 1 + 1, 0, none⟩ (.iface 78 (.pointer (some ⟨b, 0, none⟩))) = wz at *
      have kdr : Keeps Nothing wz wz.drew := (Keeps.refl Nothing wz).drew
      refine wp_region_mix (fun V => V.cell? ⟨g1 + 1 + 1, 0, none⟩ = some (.iface 78 (.pointer (some ⟨b, 0, none⟩)))) [(true, 0), (true, 1), (true, 2)] (by kernel_rfl) (by kernel_rfl) (kdr.cell c2F (fun h => h)) ?_
      simp only [mixItems, List.map_cons, List.map_nil, List.getD_cons_zero, List.getD_cons_succ]
      refine wpMix_yield (v := (.iface 78 (.pointer (some ⟨b, 0, none⟩)))) (fun V hV => ?_) (fun K hK => ?_)
      · go_simp
      go_simp
      refine hK _ ?_
      clear hK K
      repeat (refine wpMix_free (fun K hK => ?_); go_simp; refine hK _ ?_; clear hK K)
      refine wpMix_nil ?_
      go_wp2_with fail
      go_ret2
      exact ⟨KF.out.trans kdr (fun _ h _ => h), .inr ⟨by decide, _, rfl, ⟨b, rfl⟩, EF.out.keeps kdr (fun _ h => h.elim)⟩⟩
    · have hne : out ≠ [] := fun q => h0 (by rw [hL, q]; rfl)
      obtain ⟨go, hgo⟩ : ∃ go, ao = some ⟨go, 0, none⟩ := PP.out.own.head (fun q => h0 (by rw [q]; rfl))
      subst hgo
      obtain ⟨gt, ot, hat⟩ := PP.out.row.head (by intro q; have := congrArg List.length q; rw [List.length_map, hTl, ← hL] at this; exact h0 (by simpa using this))
      subst hat
      have hpe : parseE (0, 0, out) = (0, 0, out) := by
        show (if (0 : Int) = 0 ∧ out.isEmpty = true then (40, 0, []) else ((0 : Int), 0, out)) = (0, 0, out)
        rw [if_neg]
        rintro ⟨_, q⟩
        exact hne (by simpa using q)
      have HPE := shut hpe
      obtain ⟨m, hm⟩ : ∃ m, L.length = m := ⟨_, rfl⟩
      rw [hm] at c1 hL h0
      have c3 := blk_cell PP.out.b3 0 (v := .slice (some ⟨gt, ot, none⟩) T.length ct) rfl
      rw [hTl, ← hL] at c3
      have m0 : ((m : Int) == 0) = false := by rw [beq_eq_false_iff_ne]; omega
      have m00 : ¬ (m : Int) = 0 := by omega
      have hm64 : m ≤ 64 := by omega
      have hgoB := shut PP.out.own.blk
      have HRT := shut PP.out.rowT
      have HTX := shut PP.out.texts
      have HOW := shut PP.out.owns
      have HRW := shut PP.out.row
      have n1 : g1 ≠ go := fun q => PP.out.own1 (by rw [q]; rfl)
      have n3 : g1 + 1 ≠ go := fun q => PP.out.own3 (by rw [q]; rfl)
      have hN := PP.out.newo go rfl
      have HM := shut hL
      have HCAP := shut PP.out.own.cap
      have HLL := shut hm
      clear hm hL hTl hBL hne hpe b2 PP
      go_wp2_with fail
      go_loopw [7, 28] (fun _ s28 wx => ∃ i : Nat, s28 = .int .i64 i ∧ i ≤ m ∧ Keeps (fun b => b = go) W wx ∧ Shut (RowT W out go i wx)) (fun _ s28 _ => m - (intOf s28).toNat)
      case atStart => exact ⟨0, rfl, Nat.zero_le _, Keeps.refl _ _, HRT⟩
      case round =>
        obtain ⟨i, rfl, hi, K, HT⟩ := hrel
        by_cases hlt : i < m
        rotate_left
        · obtain rfl : i = m := by omega
          have q1 : ¬ (i : Int) < i := by omega
          have d1 := K.cell c1 n1
          have hfin : ParsePost w (0, 0, out) (.returned (.tuple #[.slice (some ⟨go, 0, none⟩) out.length cap, .nilIface])) wr := by
            refine ⟨keepsHi (HK.out.trans K (fun b hb _ => by have hb' : b = go := hb; rw [hb']; exact hN)), .inl ⟨rfl, _, cap, rfl, ?_, ?_⟩⟩
            · have h1 := HCAP.out
              rw [HLL.out, HM.out] at h1
              exact h1
            · have h1 := HT.out
              rw [HM.out] at h1
              exact h1.sl K hgoB.out (fun d hd => by have h9 : d.text.length ≤ n := HB.out.2 d hd; unfold bigN; omega) (by have h9 : out.length ≤ 64 := HB.out.1; unfold bigN; omega)
          rw [← HM.out] at hfin
          have HF := shut hfin
          clear hfin HT HRT HTX HOW HRW HCAP HB c1 c3
          go_wp2_with fail
          go_ret2
          rw [HPE.out]
          exact HF.out
        have q1 : (i : Int) < m := by omega
        have q0 : (0 : Int) ≤ i := by omega
        obtain ⟨d, hd⟩ : ∃ d, out[i]? = some d := ⟨_, List.getElem?_eq_getElem (by rw [← HM.out]; exact hlt)⟩
        obtain ⟨x, hx, hxd⟩ := HTX.out i d hd
        have hxo := HOW.out x (List.mem_of_getElem? hx)
        have hxc : W.cell? ⟨gt, ot + i, none⟩ = some (txRowV x) := HRW.out.cell (by rw [List.getElem?_map, hx]; rfl)
        obtain ⟨xa, xc, xt⟩ := x
        simp only at hxd hxo
        subst hxd
        have kdr : Keeps Nothing wr wr.drew := (Keeps.refl Nothing wr).drew
        have kW : Keeps (fun b => b = go) W wr.drew := K.trans kdr (fun _ h _ => h.elim)
        have d1 := kW.cell c1 n1
        have d3 := kW.cell c3 n3
        have ngt : gt ≠ go := fun q => by
          obtain ⟨cur, hc⟩ := hgoB.out
          subst q
          exact HRW.out.ne hc (by decide) rfl
        have dr := kW.cell hxc ngt
        simp only [txRowV] at dr
        have hby := own8_bytes (kW.own hxo.1 (fun g hg q => by
          have q' : g = go := q
          subst q'
          obtain ⟨cur, hc⟩ := hgoB.out
          exact own_ne hxo.1 hc (by decide) hg))
        have HBY := shut hby
        clear hby
        have HT2 := shut (RowT.put (wx := wr.drew) (show RowT W out go i wr.drew from HT.out) hd)
        have HBk : Shut (∃ cur : Array Value, Blk wr go cur 43 ∧ cur[i * 3 + 2]? = some (txV [])) := shut (by
          obtain ⟨cur, hb, hc⟩ := HT.out
          obtain ⟨a, c, _, _, e3, _⟩ := hc i d hd
          rw [if_neg (Nat.lt_irrefl i)] at e3
          exact ⟨cur, hb, e3⟩)
        obtain ⟨cur, hcur, hc2⟩ := HBk.out
        have e2 := blk_cell hcur (i * 3 + 2) hc2
        have f2 := blk_free hcur (i * 3 + 2)
        have HXL := shut hx
        clear hd hx hxo hxc HT HBk hc2
        have m3 : ((i * 3 + 2 : Nat) : Int) = (i : Int) * 3 + 2 := by omega
        go_upto_region 14 with fail
        refine wp_region_mixT (fun V => Keeps Nothing wr.drew V) 9 (.take 0 (.take 1 (.take 2 (.take 3 (.take 4 (.take 5 (.take 6 (.one 7 (.take 8 (.one 9 .done)))))))))) (by kernel_rfl) (by kernel_rfl) (Keeps.refl _ _) ?_
        simp only [itemsT, PlanT.map, List.getD_cons_zero, List.getD_cons_succ, Nat.reduceBEq]
        refine wpMixT_yield (v := .slice (some ⟨go, 0, none⟩) m cap) (fun V hV => ?_) (fun K hK => ?_)
        · have z1 := hV.cell d1 (fun h => h)
          have z3 := hV.cell d3 (fun h => h)
          have zr := hV.cell dr (fun h => h)
          go_simp
        go_simp
        refine hK _ ?_
        clear hK K
        repeat (refine wpMixT_free (fun K hK => ?_); go_simp; refine hK _ ?_; clear hK K)
        refine wpMixT_yield (v := .slice (some ⟨gt, ot, none⟩) m ct) (fun V hV => ?_) (fun K hK => ?_)
        · have z1 := hV.cell d1 (fun h => h)
          have z3 := hV.cell d3 (fun h => h)
          have zr := hV.cell dr (fun h => h)
          go_simp
        go_simp
        refine hK _ ?_
        clear hK K
        repeat (refine wpMixT_free (fun K hK => ?_); go_simp; refine hK _ ?_; clear hK K)
        refine wpMixT_yield (v := .slice xa d.text.length xc) (fun V hV => ?_) (fun K hK => ?_)
        · have z1 := hV.cell d1 (fun h => h)
          have z3 := hV.cell d3 (fun h => h)
          have zr := hV.cell dr (fun h => h)
          go_simp
        go_simp
        refine hK _ ?_
        clear hK K
        refine wpMixT_yield (v := .string ⟨d.text.toArray⟩) (fun V hV => ?_) (fun K hK => ?_)
        · have zb := run_str V xc d.text rfl (HBY.out.keeps hV (fun _ _ h => h))
          go_simp
        go_simp
        refine hK _ ?_
        clear hK K
        refine wpMixT_one (fun K hK => ?_)
        go_wp2_with fail
        refine hK _ _ (.inr (Keeps.refl _ _)) ?_
        clear hK K
        repeat (refine wpMixT_free (fun K hK => ?_); go_simp; refine hK _ ?_; clear hK K)
        refine wpMixT_one (fun K hK => ?_)
        have e2d := kdr.cell e2 (fun h => h)
        have f2d : wr.drew.frozen? ⟨go, i * 3 + 2, none⟩ = false := f2
        go_wp2_with fail
        any_goals try (rename_i hfz; simp [f2d] at hfz; done)
        refine hK _ _ (.inl trivial) ?_
        clear hK K
        refine wpMixT_done ?_
        go_wp2_with fail
        have kst : Keeps (fun b => b = go) wr.drew (wr.drew.setCell ⟨go, i * 3 + 2, none⟩ (txV d.text)) := (Keeps.refl (fun b => b = go) wr.drew).setCell (p := ⟨go, i * 3 + 2, none⟩) (fun _ => rfl) _
        refine ⟨⟨i + 1, by go_num, by omega, kW.trans kst (fun _ h _ => h), HT2⟩, ?_⟩
        simp [intOf]
        omega
  · obtain ⟨K, c, q, hc, hpr, ev, b2, hE⟩ := hE
    obtain rfl : R = (c, q, []) := by rw [← HR.out, hpr]
    have hpe : parseE (c, q, ([] : List SrcD)) = (c, q, []) := by
      show (if c = 0 ∧ _ then (40, 0, []) else (c, q, [])) = _
      rw [if_neg (fun h => hc h.1)]
    obtain ⟨b, rfl⟩ : ∃ b, ev = (.iface 78 (.pointer (some ⟨b, 0, none⟩))) := by
      rcases hE with ⟨_, h, _⟩ | ⟨b, _, _, h, _⟩
      · exact absurd h hc
      · exact ⟨b, h⟩
    have c2 := blk_cell b2 0 (v := (.iface 78 (.pointer (some ⟨b, 0, none⟩)))) rfl
    have HPE := shut hpe
    have HE := shut hE
    have HC := shut hc
    have KF := shut (keepsHi K)
    have kdr : Keeps Nothing W W.drew := (Keeps.refl Nothing W).drew
    clear hpe hpr HR K hE b2 hc
    go_wp2_with fail
    refine wp_region_mix (fun V => V.cell? ⟨g1 + 1 + 1, 0, none⟩ = some (.iface 78 (.pointer (some ⟨b, 0, none⟩)))) [(true, 0), (true, 1), (true, 2)] (by kernel_rfl) (by kernel_rfl) (kdr.cell c2 (fun h => h)) ?_
    simp only [mixItems, List.map_cons, List.map_nil, List.getD_cons_zero, List.getD_cons_succ]
    refine wpMix_yield (v := (.iface 78 (.pointer (some ⟨b, 0, none⟩)))) (fun V hV => ?_) (fun K hK => ?_)
    · go_simp
    go_simp
    refine hK _ ?_
    clear hK K
    repeat (refine wpMix_free (fun K hK => ?_); go_simp; refine hK _ ?_; clear hK K)
    refine wpMix_nil ?_
    go_wp2_with fail
    go_ret2
    rw [HPE.out]
    exact ⟨KF.out.trans kdr (fun _ h _ => h), .inr ⟨HC.out, _, rfl, ⟨b, rfl⟩, HE.out.keeps kdr (fun _ h => h.elim)⟩⟩

end Go.Proofs.YtiliajnijjkcdaaDoor
