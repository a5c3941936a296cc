/- journal: rows of entries compared, copied. journal.Entries. journal.Add. -/
import Derived.Test.YteifmkfkekglpaaDoorJouP
import Derived.BigQuiet
import Derived.Deep.QuietTactic
import Derived.Test.YteifmkfkekglpaaDoorMixT
namespace Go.Proofs.YteifmkfkekglpaaDoor
open Go.RowKit

theorem isErr_chain {B : Nat} {w : World} {v : Value} {c p : Int} (h : IsErr B w v c p) (hc : c ≠ 0) : FChain w c [p] v := by
  rcases h with ⟨_, h, _⟩ | ⟨b, _, _, hv, h0, h1, h2⟩
  · exact absurd h hc
  · exact ⟨b, hv, h0, h1, _, h2, rfl⟩
theorem eql_ent (k k' : Int) (p p' : Int) (a b : List UInt8) (w : World) :
    (Op.equalIn 10000 23 (.agg #[.int .i64 k, .int .i64 p, .string ⟨a.toArray⟩]) (.agg #[.int .i64 k', .int .i64 p', .string ⟨b.toArray⟩])).run Tryd.prog w = .ok (decide (k = k' ∧ p = p' ∧ a = b)) w := by
  have hu : Tryd.prog.underlying 23 = some (.struct (Tryd.prog.fieldsOf 23)) := by kernel_rfl
  have hp : Tryd.prog.stoodInHeld 23 = false := by kernel_rfl
  rw [show (10000 : Nat) = 9999 + 1 from rfl, run_equalIn_agg w 9999 _ _ _ hu hp]
  clear hu hp
  by_cases h1 : k = k'
  · by_cases h2 : p = p'
    · by_cases h3 : a = b
      · subst h1 h2 h3
        go_simp
      · subst h1 h2
        go_simp
    · subst h1
      go_simp
  · go_simp
/-- A row of entries of its own. -/
abbrev OwnE (w : World) (o : Option Addr) (cap : Nat) (L : List EntT) : Prop := OwnC w 23 3 o cap (L.map EntT.cells)
theorem ownE_cells {w : World} {g : Nat} {cap : Nat} {L : List EntT} (h : OwnE w (some ⟨g, 0, none⟩) cap L) {j : Nat} {x : EntT} (hj : L[j]? = some x) :
    w.cell? ⟨g, j * 3, none⟩ = some (.int .i64 x.crate) ∧ w.cell? ⟨g, j * 3 + 1, none⟩ = some (.int .i64 x.epoch) ∧ w.cell? ⟨g, j * 3 + 2, none⟩ = some (.string ⟨x.data.toArray⟩) := by
  have := OwnC.range h (fun y hy => by obtain ⟨d, _, rfl⟩ := List.mem_map.1 hy; rfl) (show (L.map EntT.cells)[j]? = some x.cells by rw [List.getElem?_map, hj]; rfl)
  exact ⟨this 0 _ rfl, this 1 _ rfl, this 2 _ rfl⟩

set_option maxRecDepth 100000 in
set_option maxHeartbeats 2000000 in
theorem rents_any (w : World) (L : List EntT) (hl : L.length ≤ 1000000000000) {ax ay : Option Addr} {cx cy : Nat} (ox : OwnE w ax cx L) (oy : OwnE w ay cy L) :
    Calls Tryd.prog 13 #[.slice ax L.length cx, .slice ay L.length cy] w fun e w' => e = .returned (.bool true) ∧ Keeps Nothing w w' := by
  obtain ⟨n, hn⟩ : ∃ n, L.length = n := ⟨_, rfl⟩
  rw [hn] at hl ⊢
  have HN := shut hn
  clear hn
  go_enter Tryd.func13, Tryd.ntmps13
  go_wp2_with fail
  go_loopw [5] (fun s5 wx => ∃ t : Nat, s5 = .int .i64 t ∧ t ≤ n ∧ Keeps Nothing w wx) (fun s5 _ => n - (intOf s5).toNat)
  case atStart => exact ⟨0, rfl, Nat.zero_le _, Keeps.refl _ _⟩
  case round =>
    obtain ⟨t, rfl, ht, K⟩ := hrel
    by_cases hlt : t < n
    · obtain ⟨x, hx⟩ : ∃ x, L[t]? = some x := ⟨_, List.getElem?_eq_getElem (by rw [HN.out]; exact hlt)⟩
      have hne : L.map EntT.cells ≠ [] := by intro h; rw [List.map_eq_nil_iff] at h; subst h; cases hx
      have ox2 := ox.keepsN K
      have oy2 := oy.keepsN K
      obtain ⟨gx, rfl⟩ := OwnC.head ox2 hne
      obtain ⟨gy, rfl⟩ := OwnC.head oy2 hne
      obtain ⟨x0, x1, x2⟩ := ownE_cells ox2 hx
      obtain ⟨y0, y1, y2⟩ := ownE_cells oy2 hx
      have m0 : (0 : Int) ≤ t := by omega
      have m1 : (t : Int) < n := by omega
      have heq := fun W => eql_ent x.crate x.crate x.epoch x.epoch x.data x.data W
      rw [show decide ((x.crate : Int) = x.crate ∧ x.epoch = x.epoch ∧ x.data = x.data) = true by simp] at heq
      clear hx hne ox2 oy2
      go_wp2_with fail
      go_quiet (fail)
      go_wp2_with fail
      go_roundw
      case rel => exact ⟨t + 1, by go_num, by omega, K.drewN _⟩
      case measure => simp [intOf]; omega
    · have m1 : ¬ (t : Int) < n := by omega
      go_wp2_with fail
      go_ret
      exact ⟨rfl, K⟩

end Go.Proofs.YteifmkfkekglpaaDoor

namespace Go.Proofs.YteifmkfkekglpaaDoor
open Go.RowKit

theorem ent_flat (L : List EntT) : (L.map EntT.cells).flatten.length = L.length * 3 := by
  induction L with
  | nil => rfl
  | cons x l ih => rw [List.map_cons, List.flatten_cons, List.length_append, ih, List.length_cons]; show 3 + _ = _; omega
theorem ent_one (L : List EntT) : ∀ u ∈ (L.map EntT.cells).flatten, u.oneCell' = true := by
  intro u hu
  obtain ⟨l, hl, hu⟩ := List.mem_flatten.1 hu
  obtain ⟨x, _, rfl⟩ := List.mem_map.1 hl
  exact x.one u hu
theorem srcE {w : World} {ao : Option Addr} {cap n : Nat} {L : List EntT} (hn : L.length = n) (h : OwnE w ao cap L) : Src Tryd.prog 3 24 (.slice ao n cap) n (L.map EntT.cells).flatten w := by
  subst hn
  rcases OwnC.shape h with rfl | ⟨g, rfl⟩
  · rcases h.2 with ⟨_, hl⟩ | ⟨g, cap', cur, hv, _⟩
    · rw [List.length_map] at hl
      obtain rfl := List.eq_nil_of_length_eq_zero hl
      exact Src.ofNil _ Tryd.underlying24 cap
    · simp at hv
  · refine Src.ofSlice _ Tryd.underlying24 ⟨g, 0, none⟩ _ _ _ (ent_flat L) (fun j u hj => ?_) (ent_one L)
    exact World.ownsRow.cells h (g := g) rfl j u hj
/-- append of all entries to none. -/
theorem wpList_copyE (w : World) {ops : Array Oper} {rest : List Oper} {o : Oper} {a : Act} {Q : Exit → Act → World → Prop} (hgd : o.guard = none) (s x : Operand)
    (ho : o.op = .call { callee := .builtin .append, args := #[s, x], argTypes := #[24, 24] })
    (hsv : a.eval s = .slice none 0 0) (ay : Option Addr) (cy : Nat) (L : List EntT) (n : Nat) (hn : L.length = n) (hx : a.eval x = .slice ay n cy) (hown : OwnE w ay cy L) (hb : n ≤ 1000000)
    (h : ∀ ao' cap' w', OwnE w' ao' cap' L → Keeps Nothing w w' → (∀ g, blockOf ao' = some g → w.heap.size ≤ g) → wpList Tryd.prog ops Q rest (a.put o.dst (.slice ao' n cap')) w') : wpList Tryd.prog ops Q (o :: rest) a w := by
  obtain ⟨i0, hi, hz0, hz1, hz2⟩ := jinfo3 infoEnt3
  refine wpList_append_src w hgd s x 24 24 ho 23 i0 (.agg #[.int .i64 0, .int .i64 0, .string ⟨#[]⟩]) 3 32 Tryd.underlying24 hi hz0 hz1 hz2 (by rfl) none 0 0 [] hsv (World.ownsRow_nil w _ _ _) _ n (L.map EntT.cells).flatten hx (srcE hn hown)
    (by unfold maxLen; omega) (by omega) fun ao' cap' w' h1 h2 h3 => ?_
  rw [Nat.zero_add] at h1 ⊢
  rw [List.nil_append] at h1
  refine h ao' cap' w' ?_ ((Keeps.refl _ _).grown h2 (fun k hk _ => by cases hk)) (h3.new (Nat.le_refl _) (fun g hg => by simp [blockOf] at hg))
  unfold OwnE OwnC
  rw [List.length_map, hn]
  exact h1

set_option maxRecDepth 100000 in
set_option maxHeartbeats 2000000 in
theorem entries_any {w : World} {q p : Nat} {o : Option Addr} {cap : Nat} {L : List EntT} (h : Jr w q p o cap L) (hl : L.length ≤ 1000000) :
    Calls Tryd.prog 18 #[.pointer (some ⟨q, 0, none⟩)] w fun e w' => ∃ o' c', e = .returned (.slice o' L.length c') ∧ OwnE w' o' c' L ∧ Keeps Nothing w w' := by
  have h1 := blk_cell h.blk 1 rfl
  go_enter Tryd.func18, Tryd.ntmps18
  go_wp2_with (at_builtin; refine wpList_copyE _ rfl (.const (.slice none 0 0)) (.tmp 8) rfl rfl o cap L L.length rfl rfl h.own hl ?_)
  intro o' c' w' hO hK hF
  go_wp2_with fail
  go_ret
  exact ⟨o', c', rfl, hO, hK⟩

end Go.Proofs.YteifmkfkekglpaaDoor

namespace Go.Proofs.YteifmkfkekglpaaDoor
open Go.RowKit

/-- Add's error: none is 0. -/
def addC (d : DkS) (x : EntT) : Nat := if frameP x then (d.append (frameE x)).1 else 1
/-- What the disk holds behind it. -/
def addD (d : DkS) (x : EntT) : DkS := { d with bs := d.bs ++ frameE x, sy := (d.bs ++ frameE x).length }
/-- The blocks that Add may turn. -/
def JF (q p : Nat) (ao o : Option Addr) : Nat → Prop := fun k => k = q ∨ k = p ∨ blockOf ao = some k ∨ blockOf o = some k
def AddPost (w : World) (q p : Nat) (ao o : Option Addr) (d : DkS) (L : List EntT) (x : EntT) (e : Ending) (w' : World) : Prop :=
  (addC d x = 0 → e = .returned .nilIface ∧ ∃ o' c' a' k', Jr w' q p o' c' (L ++ [x]) ∧ Dk w' p a' k' (addD d x) ∧ Keeps (JF q p ao o) w w' ∧ Moved w.heap.size ao a' ∧ Moved w.heap.size o o') ∧
  (addC d x ≠ 0 → ∃ b, e = .returned (.iface 83 (.pointer (some ⟨b, 0, none⟩))) ∧ w.heap.size ≤ b ∧ FChain w' (addC d x) [(L.length : Int), 0] (.iface 83 (.pointer (some ⟨b, 0, none⟩))) ∧ ∃ c' a' k', Jr w' q p o c' L ∧ Dk w' p a' k' d ∧ Keeps (JF q p ao o) w w' ∧ Moved w.heap.size ao a')

theorem blk_ty {w : World} {q p : Nat} {cs cs' : Array Value} {t t' : TypeId} (h1 : Blk w q cs t) (h2 : Blk w p cs' t') (hne : t ≠ t') : q ≠ p := by
  intro h
  subst h
  have h3 := h1.symm.trans h2
  simp only [Option.some.injEq, Obj.cells.injEq] at h3
  exact hne h3.2.1
theorem ownE_ne8 {w : World} {o ao : Option Addr} {cap k : Nat} {L : List EntT} {bs : List UInt8} (h : OwnE w o cap L) (h8 : Own8 w 5 ao k bs) {g : Nat} (hg : blockOf o = some g) : blockOf ao ≠ some g := by
  rcases OwnC.shape h with rfl | ⟨g', rfl⟩
  · simp [blockOf] at hg
  · obtain rfl : g' = g := by simpa [blockOf] using hg
    obtain ⟨cur, hb⟩ := OwnC.blk h
    exact own8_ne h8 hb (by decide)
theorem Jr.keepsD {w w' : World} {q p k : Nat} {o ao : Option Addr} {cap : Nat} {L : List EntT} {d : DkS} (h : Jr w q p o cap L) (hk : Dk w p ao k d) (K : Keeps (WrF p ao) w w') : Jr w' q p o cap L :=
  h.keeps K (fun hx => by
    rcases hx with hx | hx
    · exact blk_ty h.blk hk.blk (by decide) hx
    · exact own8_ne hk.own h.blk (by decide) hx) (fun g hg hx => by
    rcases hx with hx | hx
    · subst hx; exact h.own.ne hk.blk (by decide) hg
    · exact ownE_ne8 h.own hk.own hg hx)
theorem ErrVar.keepsS {S : Nat → Prop} {w w' : World} (h : ErrVar w) (k : Keeps S w w') (h0 : ¬ S 0) : ErrVar w' := k.cell h h0

attribute [local go_sem ↓] exec_store_ent exec_mid_ent
attribute [local go_sem] rowOk_new World.setRow_alloc_new aggOk_ent mid_new

set_option maxRecDepth 100000 in
set_option maxHeartbeats 4000000 in
theorem add_any {w : World} {q p : Nat} {ao o : Option Addr} {k cap : Nat} {d : DkS} {L : List EntT} {x : EntT} (hg : ErrVar w) (hj : Jr w q p o cap L) (hk : Dk w p ao k d) (hd : d.dn = false) (hx : x.Fit) (hxd : x.data.length ≤ 5000) (hL : L.length ≤ 1000000) (hp0 : 0 < p) (ha0 : ∀ g, blockOf ao = some g → 0 < g) :
    Calls Tryd.prog 17 #[.pointer (some ⟨q, 0, none⟩), .agg x.cells.toArray] w (AddPost w q p ao o d L x) := by
  obtain ⟨z1, z2, z3⟩ := x
  have HD := shut hd
  clear hd
  show Calls _ _ #[.pointer (some ⟨q, 0, none⟩), .agg #[.int .i64 z1, .int .i64 z2, .string ⟨z3.toArray⟩]] _ _
  have ka : Keeps Nothing w (w.alloc (.cells #[.int .i64 z1, .int .i64 z2, .string ⟨z3.toArray⟩] 23)) := (Keeps.refl Nothing w).alloc _
  have BE := blk_new w #[.int .i64 z1, .int .i64 z2, .string ⟨z3.toArray⟩] 23
  have hfr := frame_any (w.alloc (.cells #[.int .i64 z1, .int .i64 z2, .string ⟨z3.toArray⟩] 23)) ⟨z1, z2, z3⟩ hx hxd
  have hfr2 : Calls Tryd.prog 8 #[.agg #[.int .i64 z1, .int .i64 z2, .string ⟨z3.toArray⟩]] _ _ := hfr
  clear hfr
  go_enter Tryd.func17, Tryd.ntmps17
  go_wp2_with fail
  refine hfr2.mono ?_
  rintro e w1 hp
  clear hfr2
  by_cases hP : frameP ⟨z1, z2, z3⟩
  · obtain ⟨a1, c1, rfl, o1, k1, f1⟩ := hp.1 hP
    have K1 := ka.trans k1 (fun _ h _ => h)
    have hk1 := hk.keepsN K1
    have hj1 := hj.keepsN K1
    have BE1 := k1.blk BE (fun h => h)
    have hfl : (frameE ⟨z1, z2, z3⟩).length ≤ 6000 := by
      unfold frameE
      rw [frameB_len]
      have := encE_len ⟨z1, z2, z3⟩ hx (by simp only at hxd ⊢; omega)
      simp only at this hxd
      omega
    have hap := disk_append hk1 c1 (own8_at o1) (by omega) rfl
    have c0 := blk_cell hj1.blk 0 rfl
    have hac : addC d ⟨z1, z2, z3⟩ = (d.append (frameE ⟨z1, z2, z3⟩)).1 := by unfold addC; rw [if_pos hP]
    clear hp o1
    by_cases hroom : d.room - d.bs.length < ((frameE ⟨z1, z2, z3⟩).length : Int)
    · have hapd : d.append (frameE ⟨z1, z2, z3⟩) = (12, d) := by
        unfold DkS.append
        rw [if_neg (by rw [HD.out]; decide), if_pos hroom]
      rw [hapd] at hap hac
      have HAC := shut hac
      clear hac hapd hroom
      go_wp2_with fail
      refine hap.mono ?_
      rintro e w2 ⟨ev, rfl, hev, a2, k2, hk2, kk2, m2⟩
      have hch := isErr_chain hev (by decide)
      obtain ⟨be, rfl⟩ := isErr_yes hev (by decide)
      have hj2 := hj1.keepsD hk1 kk2
      have c1 := blk_cell hj2.blk 1 rfl
      have hin := in_chain hch ((hg.keeps K1).keepsS kk2 (fun h => by rcases h with h | h; omega; exact absurd (ha0 _ h) (by decide))) (L.length : Nat)
      clear hap hev hch
      go_wp2_with fail
      refine hin.mono ?_
      rintro e w3 ⟨b, rfl, hb, hch3, k3⟩
      go_wp2_with fail
      go_ret
      have KK : Keeps (JF q p ao o) w w2 := ((Keeps.refl (JF q p ao o) w).trans K1 (fun _ h _ => h.elim)).trans kk2 (fun i h _ => by rcases h with h | h; exact .inr (.inl h); exact .inr (.inr (.inl h)))
      refine ⟨fun h => (by rw [HAC.out] at h; cases h), fun _ => ⟨b, rfl, by have := KK.size; omega, ?_, cap, a2, k2, hj2.keepsN k3, hk2.keepsN k3, KK.trans k3 (fun _ h _ => h.elim), m2.mono K1.size⟩⟩
      rw [HAC.out]
      exact hch3
    · have hapd : d.append (frameE ⟨z1, z2, z3⟩) = (0, { d with bs := d.bs ++ frameE ⟨z1, z2, z3⟩ }) := by
        unfold DkS.append
        rw [if_neg (by rw [HD.out]; decide), if_neg hroom]
      rw [hapd] at hap hac
      have HAC := shut hac
      clear hac hapd hroom
      go_wp2_with fail
      refine hap.mono ?_
      rintro e w2 ⟨ev, rfl, hev, a2, k2, hk2, kk2, m2⟩
      obtain rfl := isErr_no hev
      have hj2 := hj1.keepsD hk1 kk2
      have c02 := blk_cell hj2.blk 0 rfl
      have hsy := disk_sync hk2
      have hsd : DkS.sync { d with bs := d.bs ++ frameE ⟨z1, z2, z3⟩ } = (0, addD d ⟨z1, z2, z3⟩) := by
        unfold DkS.sync addD
        rw [if_neg (by show ¬ d.dn = true; rw [HD.out]; decide)]
      rw [hsd] at hsy
      clear hap hev hsd
      go_wp2_with fail
      refine hsy.mono ?_
      rintro e w3 ⟨ev, rfl, hev, a3, k3, hk3, kk3, m3⟩
      obtain rfl := isErr_no hev
      have hj3 := hj2.keepsD hk2 kk3
      clear hsy hev
      have BE2 := kk2.blk BE1 (fun h => by
        rcases h with h | h
        · exact blk_ty BE1 hk1.blk (by decide) h
        · exact own8_ne hk1.own BE1 (by decide) h)
      have BE3 := kk3.blk BE2 (fun h => by
        rcases h with h | h
        · exact blk_ty BE2 hk2.blk (by decide) h
        · exact own8_ne hk2.own BE2 (by decide) h)
      have KK : Keeps (JF q p ao o) w w3 := (((Keeps.refl (JF q p ao o) w).trans K1 (fun _ h _ => h.elim)).trans kk2 (fun i h _ => by rcases h with h | h; exact .inr (.inl h); exact .inr (.inr (.inl h)))).trans kk3 (fun i h hlt => by
        rcases wrF_back m2 i h (by have := K1.size; omega) with h | h
        · exact .inr (.inl h)
        · exact .inr (.inr (.inl h)))
      have M3 : Moved w.heap.size ao a3 := (m2.mono K1.size).trans m3 (by have := K1.size; have := kk2.size; omega)
      clear BE1 BE2 hj1 hj2 hk1 hk2 kk2 kk3 m2 m3 c0 c02 K1 k1 BE ka
      go_wp2_with fail
      have c1d := blk_cell hj3.blk 1 rfl
      refine wp_region_mixT (fun W => W.cell? ⟨q, 1, none⟩ = some (.slice o L.length cap) ∧ Blk W w.heap.size #[.int .i64 z1, .int .i64 z2, .string ⟨z3.toArray⟩] 23) 10 (.take 0 (.take 1 (.take 2 (.take 3 (.take 4 (.take 5 (.one 6 (.one 7 (.one 8 (.take 9 (.one 10 .done))))))))))) (by kernel_rfl) (by kernel_rfl) ⟨c1d, BE3⟩ ?_
      simp only [itemsT, PlanT.map, List.getD_cons_zero, List.getD_cons_succ, Nat.reduceBEq]
      have kd : Keeps Nothing w3 w3.drew := (Keeps.refl Nothing w3).drew
      have hjd := hj3.keepsN kd
      have hkd := hk3.keepsN kd
      have BEd := kd.blk BE3 (fun h => h)
      have KKd := KK.trans kd (fun _ h _ => h.elim)
      clear hj3 hk3 BE3 KK kd c1d
      generalize w3.drew = V at *
      repeat (refine wpMixT_free (fun K hK => ?_); go_simp; refine hK _ ?_; clear hK K)
      refine wpMixT_yield (v := .slice o L.length cap) (fun W hW => ?_) (fun K hK => ?_)
      · have zz := hW.1
        go_simp
      go_simp
      refine hK _ ?_
      clear hK K
      refine wpMixT_yield (v := .agg #[.int .i64 z1, .int .i64 z2, .string ⟨z3.toArray⟩]) (fun W hW => ?_) (fun K hK => ?_)
      · obtain ⟨zz, z4⟩ := jblk_mid hW.2 (n := 3) rfl
        go_simp
      go_simp
      refine hK _ ?_
      clear hK K
      refine wpMixT_one (fun K hK => ?_)
      go_wp2_with fail
      have ka2 : Keeps Nothing V (V.alloc (.cells #[.int .i64 z1, .int .i64 z2, .string ⟨z3.toArray⟩] 23)) := (Keeps.refl Nothing V).alloc _
      have BD := blk_new V #[.int .i64 z1, .int .i64 z2, .string ⟨z3.toArray⟩] 23
      have hja := hjd.keepsN ka2
      have hka := hkd.keepsN ka2
      have BEa := ka2.blk BEd (fun h => h)
      have KKa := KKd.trans ka2 (fun _ h _ => h.elim)
      refine hK _ _ (.inr ⟨blk_cell hja.blk 1 rfl, BEa⟩) ?_
      clear hK K hjd hkd BEd KKd ka2
      generalize V.alloc (.cells #[.int .i64 z1, .int .i64 z2, .string ⟨z3.toArray⟩] 23) = V2 at *
      generalize V.heap.size = gv at *
      refine wpMixT_one (fun K hK => ?_)
      refine wpList_appE _ rfl (.tmp 43) (.tmp 45) rfl o cap L L.length rfl rfl hja.own gv _ ⟨z1, z2, z3⟩ rfl rfl BD (by omega) ?_
      intro o5 c5 w5 O5 k5 m5
      have hq5 : ¬ blockOf o = some q := hja.own.ne hja.blk (by decide)
      have BQ5 := k5.blk hja.blk hq5
      have BE5 := k5.blk BEa (fun h => by have := hj.own.lt h; omega)
      have hk5 : Dk w5 p a3 k3 (addD d ⟨z1, z2, z3⟩) := hka.keeps k5 (fun h => hja.own.ne hka.blk (by decide) h) (fun g hg h => ownE_ne8 hja.own hka.own h hg)
      have K5 : Keeps (JF q p ao o) w w5 := KKa.trans k5 (fun i h _ => .inr (.inr (.inr h)))
      have M5 : Moved w.heap.size o o5 := m5.mono (by have := KKa.size; omega)
      clear k5 m5 hja hka BEa KKa BD
      go_wp2_with fail
      refine hK _ _ (.inr ⟨blk_cell BQ5 1 rfl, BE5⟩) ?_
      clear hK K
      refine wpMixT_one (fun K hK => ?_)
      go_wp2_with fail
      refine hK _ _ (.inr ⟨blk_cell BQ5 1 rfl, BE5⟩) ?_
      clear hK K
      repeat (refine wpMixT_free (fun K hK => ?_); go_simp; refine hK _ ?_; clear hK K)
      have c15 := blk_cell BQ5 1 rfl
      have f15 := blk_free BQ5 1
      refine wpMixT_one (fun K hK => ?_)
      go_wp2_with fail
      refine hK _ _ (.inl trivial) ?_
      clear hK K
      refine wpMixT_done ?_
      go_wp2_with fail
      go_ret
      have hqo : ¬ blockOf o5 = some q := OwnC.ne O5 BQ5 (by decide)
      have kq : Keeps (fun i => i = q) w5 (w5.setCell ⟨q, 1, none⟩ (.slice o5 (L.length + 1) c5)) := (Keeps.refl (fun i => i = q) w5).setCell (fun _ => rfl) _
      refine ⟨fun _ => ⟨rfl, o5, c5, a3, k3, ⟨?_, ?_⟩, ?_, K5.trans kq (fun i h _ => .inl h), M3, M5⟩, fun h => absurd HAC.out h⟩
      · have := blk_set BQ5 1 (.slice o5 (L.length + 1) c5)
        rw [List.length_append]
        exact this
      · exact OwnC.keeps O5 kq (fun g hg h => by subst h; exact hqo hg)
      · exact hk5.keeps kq (fun h => blk_ty BQ5 hk5.blk (by decide) h.symm) (fun g hg h => by subst h; exact own8_ne hk5.own BQ5 (by decide) hg)
  · obtain ⟨ev, rfl, hev, hch, k1⟩ := hp.2 hP
    obtain ⟨be, rfl⟩ := isErr_yes hev (by decide)
    have K1 := ka.trans k1 (fun _ h _ => h)
    have hk1 := hk.keepsN K1
    have hj1 := hj.keepsN K1
    have c1 := blk_cell hj1.blk 1 rfl
    clear hp
    go_wp2_with fail
    have hin := in_chain hch (hg.keeps K1) (L.length : Nat)
    refine hin.mono ?_
    rintro e w3 ⟨b, rfl, hb, hch3, k3⟩
    have hac : addC d ⟨z1, z2, z3⟩ = 1 := by unfold addC; rw [if_neg hP]
    go_wp2_with fail
    go_ret
    have KK : Keeps (JF q p ao o) w w1 := (Keeps.refl (JF q p ao o) w).trans K1 (fun _ h _ => h.elim)
    refine ⟨fun h => (by rw [hac] at h; cases h), fun _ => ⟨b, rfl, by have := KK.size; omega, ?_, cap, ao, k, hj1.keepsN k3, hk1.keepsN k3, KK.trans k3 (fun _ h _ => h.elim), Moved.refl _ _⟩⟩
    rw [hac]
    exact hch3

end Go.Proofs.YteifmkfkekglpaaDoor
