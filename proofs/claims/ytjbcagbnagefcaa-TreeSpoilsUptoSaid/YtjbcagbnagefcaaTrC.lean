/- Package tree: the names of lets. Package tree: the names of a function. -/
import Derived.Test.YtjbcagbnagefcaaTree19
import Derived.Test.YtjbcagbnagefcaaRowR
import Derived.OneCell
import Derived.Laws.EntriesVeiled
namespace Go.Proofs.Ytjbcagbnagefcaa
open Go.RowKit

attribute [local go_sem ↓] exec_mid_ty exec_store_ty exec_mid_pl exec_store_pl exec_mid_opr exec_store_opr exec_mid_val exec_store_val exec_mid_st exec_store_st exec_mid_fld exec_store_fld exec_mid_str exec_store_str exec_mid_lif exec_store_lif exec_mid_fun exec_store_fun exec_mid_cr exec_store_cr
attribute [local go_sem] rowOk_new World.setRow_alloc_new

theorem info_str : (Try.prog.info? 9).map (fun i => (i.zero, i.size, i.bytes)) = some (some (.string ⟨#[]⟩), 1, 16) := by kernel_rfl
theorem RowR.src {w : World} {e tx e' : TypeId} {ao : Option Addr} {cap n : Nat} {vs : List Value} (h : RowR w e ao cap vs) (hk : Try.prog.underlying tx = some (.slice e')) (hn : vs.length = n) (c : Nat) : Src Try.prog 1 tx (.slice ao n c) n vs w := by
  subst hn
  rcases h.shape with rfl | ⟨g, o, rfl⟩
  · rcases h.at' with ⟨_, rfl, _⟩ | ⟨g, o, cur, hv, _⟩
    · exact Src.ofNil _ hk c
    · cases hv
  · exact Src.ofSlice _ hk ⟨g, o, none⟩ vs.length c vs (by rw [Nat.mul_one]) (fun t u hu => by rw [ad_mid]; exact h.cell hu) h.one
theorem info_parts3 {P : Program} {e : TypeId} {z : Value} {s b : Nat} (h : (P.info? e).map (fun i => (i.zero, i.size, i.bytes)) = some (some z, s, b)) : ∃ i, P.info? e = some i ∧ i.zero = some z ∧ i.size = s ∧ i.bytes = b := by
  cases hi : P.info? e with
  | none => rw [hi] at h; cases h
  | some i =>
    rw [hi] at h
    simp only [Option.map_some, Option.some.injEq, Prod.mk.injEq] at h
    exact ⟨i, rfl, h.1, h.2.1, h.2.2⟩
/-- append onto a row of texts. -/
theorem wpList_appZ (w : World) {ops : Array Oper} {rest : List Oper} {o : Oper} {a : Act} {Q : Exit → Act → World → Prop} (hgd : o.guard = none) (s x : Operand)
    (ho : o.op = .call { callee := .builtin .append, args := #[s, x], argTypes := #[30, 30] })
    (ao : Option Addr) (cap : Nat) (vs : List Value) (n : Nat) (hn : vs.length = n) (hsv : a.eval s = .slice ao n cap) (hr : RowR w 9 ao cap vs) (xv : Value) (m : Nat) (news : List Value)
    (hx : a.eval x = xv) (hs : Src Try.prog 1 30 xv m news w) (hb : n ≤ 1000000000) (hm : m ≤ 1000000000)
    (h : ∀ ao' cap' w', RowR w' 9 ao' cap' (vs ++ news) → RowR w' 9 ao cap vs → Keeps (fun k => blockOf ao = some k) w w' → Moved w.heap.size ao ao' → wpList Try.prog ops Q rest (a.put o.dst (.slice ao' (n + m) cap')) w') : wpList Try.prog ops Q (o :: rest) a w := by
  obtain ⟨i0, hi, hz0, hz1, hz2⟩ := info_parts3 info_str
  exact wpList_append_row w hgd s x 30 30 ho 9 i0 (.string ⟨#[]⟩) 16 Try.underlying30 hi hz0 hz1 hz2 rfl ao n cap vs hn hsv hr xv m news hx hs (by unfold maxLen; omega) (by omega) h
theorem src_str1 {w : World} {g : Nat} {x : ByteArray} (h : Blk w g #[.string x] 9) : Src Try.prog 1 30 (.slice (some ⟨g, 0, none⟩) 1 1) 1 [.string x] w :=
  Src.ofSlice _ Try.underlying30 ⟨g, 0, none⟩ 1 1 _ rfl (fun t u hu => by
    rw [ad_mid, Nat.zero_add]
    exact blk_cell h t (by simpa using hu)) (by intro u hu; simp at hu; subst hu; rfl)

mutual
/-- The names of lets within a statement, itself too. -/
def ltS : StD → List (List UInt8)
  | .mk kind _ _ name _ _ _ _ _ thn els => (if kind = 1 then [name] else []) ++ ltL thn ++ ltL els
def ltL : List StD → List (List UInt8)
  | [] => []
  | s :: r => ltS s ++ ltL r
end
theorem ltL_app : ∀ (l m : List StD), ltL (l ++ m) = ltL l ++ ltL m
  | [], m => by simp [ltL]
  | s :: r, m => by simp only [List.cons_append, ltL, ltL_app r m, List.append_assoc]
theorem ltL_take {l : List StD} {t : Nat} {a : StD} (h : l[t]? = some a) : ltL (l.take (t + 1)) = ltL (l.take t) ++ ltS a := by
  rw [List.take_add_one, h, ltL_app]
  simp [ltL]
theorem cntL_cons (s : StD) (r : List StD) : cntL (s :: r) = 1 + cntS s + cntL r := by simp only [cntL]
theorem cntL_app : ∀ (l m : List StD), cntL (l ++ m) = cntL l + cntL m
  | [], m => by simp [cntL]
  | s :: r, m => by simp only [List.cons_append, cntL, cntL_app r m]; omega
mutual
theorem ltS_len : ∀ s : StD, (ltS s).length ≤ 1 + cntS s
  | .mk kind _ _ name _ _ _ _ _ thn els => by
    unfold ltS cntS
    have h1 := ltL_len thn
    have h2 := ltL_len els
    simp only [List.length_append]
    split
    · simp only [List.length_cons, List.length_nil]; omega
    · simp only [List.length_nil]; omega
theorem ltL_len : ∀ l : List StD, (ltL l).length ≤ cntL l
  | [] => by unfold ltL; simp
  | s :: r => by
    unfold ltL cntL
    have h1 := ltS_len s
    have h2 := ltL_len r
    simp only [List.length_append]; omega
end
/-- The closure's two boxes: the row of names and the closure itself. -/
structure OutW (N : Nat) (w : World) (go gw : Nat) (aR : Option Addr) (cR : Nat) (M : List (List UInt8)) : Prop where
  lo : N ≤ go
  ne : go ≠ gw
  new : ∀ g, blockOf aR = some g → N ≤ g
  out : Blk w go #[.slice aR M.length cR] 30
  fn : Blk w gw #[.func (.func 43) #[] #[.pointer (some ⟨go, 0, none⟩), .pointer (some ⟨gw, 0, none⟩)]] 66
  row : RowR w 9 aR cR (M.map txV)
/-- Only the row of names may have been written. -/
def RowS (go : Nat) (aR : Option Addr) (b : Nat) : Prop := b = go ∨ blockOf aR = some b
def LetsPost (N : Nat) (w : World) (go gw : Nat) (aR : Option Addr) (M : List (List UInt8)) (e : Ending) (w' : World) : Prop :=
  e = .returned (.tuple #[]) ∧ ∃ aR' cR', OutW N w' go gw aR' cR' M ∧ Keeps (RowS go aR) w w' ∧ Moved w.heap.size aR aR'
def LetsC (N : Nat) (l : List StD) : Prop := ∀ (w : World) (ao : Option Addr) (c go gw : Nat) (aR : Option Addr) (cR : Nat) (M : List (List UInt8)), SlIs (· < N) w 32 (StIs (· < N) w) ao l → OutW N w go gw aR cR M → M.length + cntL l ≤ 1000000000 →
  Calls Try.prog 43 #[.slice ao l.length c, .pointer (some ⟨go, 0, none⟩), .pointer (some ⟨gw, 0, none⟩)] w (LetsPost N w go gw aR (M ++ ltL l))
theorem OutW.low {N : Nat} {w : World} {go gw : Nat} {aR : Option Addr} {cR : Nat} {M : List (List UInt8)} (h : OutW N w go gw aR cR M) : ∀ b, b < N → ¬ RowS go aR b := by
  intro b hb hs
  rcases hs with rfl | hs
  · exact absurd h.lo (by omega)
  · exact absurd (h.new b hs) (by omega)
theorem OutW.size {N : Nat} {w : World} {go gw : Nat} {aR : Option Addr} {cR : Nat} {M : List (List UInt8)} (h : OutW N w go gw aR cR M) : N ≤ w.heap.size := by
  have := lt_of_block h.out
  have := h.lo
  omega
theorem OutW.keepsN {N : Nat} {w w' : World} {go gw : Nat} {aR : Option Addr} {cR : Nat} {M : List (List UInt8)} (h : OutW N w go gw aR cR M) (k : Keeps Nothing w w') : OutW N w' go gw aR cR M :=
  ⟨h.lo, h.ne, h.new, k.blk h.out (fun h => h), k.blk h.fn (fun h => h), h.row.keepsN k⟩
/-- A box of a statement is no part of it. -/
theorem OutW.box {N : Nat} {w : World} {go gw : Nat} {aR : Option Addr} {cR : Nat} {M : List (List UInt8)} (h : OutW N w go gw aR cR M) {ga : Nat} {C : Array Value} (hb : Blk w ga C 46) : ¬ RowS go aR ga := by
  intro hs
  rcases hs with rfl | hs
  · have h2 := h.out
    have h3 : some (Obj.cells C 46 (0, 0)) = some (Obj.cells #[.slice aR M.length cR] 30 (0, 0)) := by rw [← h2]; exact hb.symm
    simp at h3
  · exact h.row.ne hb (by decide) hs
/-- A name more. -/
theorem OutW.push {N : Nat} {w w2 : World} {go gw : Nat} {aR : Option Addr} {cR : Nat} {M : List (List UInt8)} (h : OutW N w go gw aR cR M) {x : List UInt8} {a2 : Option Addr} {c2 : Nat}
    (R2 : RowR w2 9 a2 c2 (M.map txV ++ [txV x])) (k : Keeps (fun k => blockOf aR = some k) w w2) (mv : Moved w.heap.size aR a2) :
    OutW N (w2.setCell ⟨go, 0, none⟩ (.slice a2 (M.length + 1) c2)) go gw a2 c2 (M ++ [x]) ∧ Keeps (RowS go aR) w (w2.setCell ⟨go, 0, none⟩ (.slice a2 (M.length + 1) c2)) ∧ w2.cell? ⟨go, 0, none⟩ = some (.slice aR M.length cR) ∧ w2.frozen? ⟨go, 0, none⟩ = false := by
  have n1 : blockOf aR ≠ some go := h.row.ne h.out (by decide)
  have n2 : blockOf aR ≠ some gw := h.row.ne h.fn (by decide)
  have b1 := k.blk h.out n1
  have b2 := k.blk h.fn n2
  have n3 : blockOf a2 ≠ some go := R2.ne b1 (by decide)
  refine ⟨⟨h.lo, h.ne, ?_, ?_, ?_, ?_⟩, ?_, blk_cell b1 0 rfl, blk_free b1 0⟩
  · intro g hg
    rcases mv with mv | ⟨g', hg', hb⟩
    · exact h.new g (by rw [← mv]; exact hg)
    · rw [hg'] at hg
      obtain rfl : g' = g := by simpa using hg
      exact Nat.le_trans h.size hb
  · have b3 := blk_set b1 0 (.slice a2 (M.length + 1) c2)
    rw [List.length_append]
    exact b3
  · exact blk_other b2 ⟨go, 0, none⟩ (fun e => h.ne e.symm) _
  · rw [List.map_append]
    exact R2.keeps ((Keeps.refl (fun i => i = go) w2).setCell (p := ⟨go, 0, none⟩) (fun _ => rfl) _) (fun g hg e => n3 (by rw [hg, e]))
  · exact ((k.mono (S' := RowS go aR) (fun i hi _ => .inr hi)).setCell (p := ⟨go, 0, none⟩) (fun _ => .inl rfl) _)

set_option maxRecDepth 100000 in
set_option linter.unusedSimpArgs false in
set_option maxHeartbeats 8000000 in
theorem lets_of {N : Nat} {l : List StD} (H : ∀ e ∈ l, LetsC N e.thn ∧ LetsC N e.els) : LetsC N l := by
  intro w ao c go gw aR cR M h hO hB
  have hl := h.1
  unfold bigN at hl
  have HX := shut h
  have HH := shut H
  have HB := shut hB
  have HO := shut hO
  clear h H hB hO
  have HF : Shut (LetsPost N w go gw aR (M ++ ltL l) = LetsPost N w go gw aR (M ++ ltL l)) := shut rfl
  obtain ⟨P, hP⟩ : ∃ P, P = LetsPost N w go gw aR (M ++ ltL l) := ⟨_, rfl⟩
  rw [← hP]
  have HPP := shut hP
  clear hP HF
  obtain ⟨n, hn⟩ : ∃ n, l.length = n := ⟨_, rfl⟩
  rw [hn] at hl ⊢
  have HN := shut hn
  clear hn
  go_enter Try.func43, Try.ntmps43
  go_wp2_with fail
  go_loopw [5, 8] (fun s5 s8 wx => ∃ (t : Nat) (aX : Option Addr) (cX : Nat), s8 = .int .i64 t ∧ t ≤ n ∧ OutW N wx go gw aX cX (M ++ ltL (l.take t)) ∧ Keeps (RowS go aR) w wx ∧ Moved w.heap.size aR aX) (fun _ s8 _ => n - (intOf s8).toNat)
  case atStart => exact ⟨0, aR, cR, rfl, Nat.zero_le _, by simpa [ltL] using HO.out, Keeps.refl _ _, Moved.refl _ _⟩
  case round =>
    obtain ⟨t, aX, cX, rfl, ht, OX, KL, MV⟩ := hrel
    have OX := shut OX
    by_cases hlt : t < n
    rotate_left
    · obtain rfl : t = n := by omega
      have m1 : ¬ (t : Int) < t := by omega
      have OE := OX.out
      rw [List.take_of_length_le (Nat.le_of_eq HN.out)] at OE
      have OE := shut OE
      clear OX
      go_wp2_with fail
      refine bodyPost_end (results_none rfl _ _ _) rfl ?_
      rw [HPP.out]
      exact ⟨rfl, aX, cX, OE.out, KL, MV⟩
    obtain ⟨a, ha⟩ : ∃ a, l[t]? = some a := ⟨_, List.getElem?_eq_getElem (by rw [HN.out]; exact hlt)⟩
    obtain ⟨g1, o1, rfl, -, cs, l1, r1, hi⟩ := (HX.out.keeps KL HO.out.low (fun _ h => h) (fun _ _ _ h => h.keeps KL HO.out.low (fun _ h => h))).get ha
    have HA := shut ha
    have HR := shut (HH.out a (List.mem_of_getElem? ha))
    have HT := shut (ltL_take ha)
    have HC : Shut ((M ++ ltL (l.take t)).length + 1 + cntL a.thn + cntL a.els ≤ 1000000000) := shut (by
      have h1 := cntL_app (l.take t) (l.drop t)
      rw [List.take_append_drop] at h1
      have h2 : l.drop t = a :: l.drop (t + 1) := by
        rw [List.drop_eq_getElem_cons (by rw [HN.out]; exact hlt)]
        rw [List.getElem?_eq_getElem (by rw [HN.out]; exact hlt)] at ha
        rw [Option.some.inj ha]
      rw [h2, cntL_cons, cntS_mk] at h1
      have h3 := ltL_len (l.take t)
      have h4 := HB.out
      rw [List.length_append]
      omega)
    clear ha
    have m0 : (0 : Int) ≤ t := by omega
    have m1 : (t : Int) < n := by omega
    have ag1 := agg_ok l1 hi.one
    obtain ⟨CA, hCA⟩ : ∃ C, C = cs.toArray := ⟨_, rfl⟩
    obtain ⟨hk, ho⟩ := sub_of r1 l1
    rw [← hCA] at ag1 ho
    have HCA := shut hCA
    clear hCA r1 l1
    go_upto_region 3 with fail
    have ka : Keeps Nothing wr (wr.alloc (.cells CA 46)) := (Keeps.refl Nothing wr).alloc _
    have BA := blk_new wr CA 46
    have OB := OX.out.keepsN ka
    have KB := KL.trans ka (fun _ h _ => h.elim)
    have hi := hi.keeps ka (fun _ _ h => h) (fun _ h => h)
    clear hk ho ag1 ka OX
    generalize wr.heap.size = ga at *
    generalize wr.alloc (.cells CA 46) = wb at *
    have OB := shut OB
    obtain ⟨a_kind, a_pos, a_mu, a_name, a_ty, a_has, a_place, a_val, a_cond, a_thn, a_els⟩ := a
    rw [stIs_iff] at hi
    obtain ⟨s4, s9, s11, s26, p30, q30, p31, q31, hcs, ah_name, ah_ty, ah_place, ah_val, ah_cond, ah_thn, ah_els⟩ := hi
    rw [hcs] at HCA
    simp only [StD.kind, StD.pos, StD.mu, StD.name, StD.ty, StD.has, StD.place, StD.val, StD.cond, StD.thn, StD.els] at ah_name ah_ty ah_place ah_val ah_cond ah_thn ah_els HCA
    have GCA := HCA
    clear HCA hcs
    have al_ty := ah_ty.len
    have al_place := ah_place.len
    have al_val := ah_val.len
    have al_cond := ah_cond.len
    simp only [StD.thn, StD.els] at HR HC
    clear ah_ty ah_place ah_val ah_cond
    obtain ⟨MX, hMX⟩ : ∃ MX, MX = M ++ ltL (l.take t) := ⟨_, rfl⟩
    rw [← hMX] at OB HC
    have HMX := shut hMX
    clear hMX
    by_cases k1 : a_kind = 1
    · subst k1
      have D1 := blk_new wb #[.string ⟨a_name.toArray⟩] 9
      have kd : Keeps Nothing wb (wb.alloc (.cells #[.string ⟨a_name.toArray⟩] 9)) := (Keeps.refl Nothing wb).alloc _
      have OD := shut (OB.out.keepsN kd)
      have BD := kd.blk BA (fun h => h)
      have eo := blk_cell OB.out.out 0 (v := .slice aX MX.length cX) rfl
      obtain ⟨ae0, -, -, ae3, -, -, -, -, -, -, -⟩ := StB al_ty al_place al_val al_cond GCA.out BA
      unfold txV at *
      have hbM : MX.length ≤ 1000000000 := by have := HC.out; omega
      go_wp2_with (at_builtin; refine wpList_appZ _ rfl (.tmp 15) (.tmp 18) rfl aX cX (MX.map txV) MX.length (by simp) rfl OD.out.row _ 1 [txV a_name] rfl (src_str1 D1) hbM (by omega) ?_)
      intro a2 c2 w2 R2 _ k2 m2
      obtain ⟨O2, K2, e2, f2⟩ := OD.out.push R2 k2 (by rw [World.size_alloc]; exact m2)
      have n1 := OD.out.box BD
      go_upto_region 5 with fail
      any_goals try (rename_i hfz; simp [f2] at hfz; done)
      have BA := K2.blk BD n1
      have hlow := OB.out.low
      have ah_thn := (ah_thn.keeps kd (fun _ _ h => h) (fun _ h => h) (fun _ _ _ h => h.keeps kd (fun _ _ h => h) (fun _ h => h))).keeps K2 hlow (fun _ h => h) (fun _ _ _ h => h.keeps K2 hlow (fun _ h => h))
      have ah_els := (ah_els.keeps kd (fun _ _ h => h) (fun _ h => h) (fun _ _ _ h => h.keeps kd (fun _ _ h => h) (fun _ h => h))).keeps K2 hlow (fun _ h => h) (fun _ _ _ h => h.keeps K2 hlow (fun _ h => h))
      have KS0 : w.heap.size ≤ wb.heap.size := KB.size
      have KB := (KB.trans kd (fun _ h _ => h.elim)).trans K2 (fun i hi hlt => by
        rcases hi with rfl | hi
        · exact .inl rfl
        · rcases MV with MV | ⟨g', hg', hb⟩
          · exact .inr (by rw [← MV]; exact hi)
          · rw [hg'] at hi
            obtain rfl : g' = i := by simpa using hi
            exact absurd hlt (by omega))
      have MV := MV.trans m2 (by omega)
      have O2 := shut O2
      clear D1 kd OD BD eo ae0 ae3 R2 k2 m2 K2 e2 f2 n1 OB hlow hbM KS0
      generalize World.setCell w2 ⟨go, 0, none⟩ (.slice a2 (MX.length + 1) c2) = w3 at *
      have OB := O2
      clear O2
      have KS : Shut (w.heap.size ≤ w3.heap.size) := shut KB.size
      have HE : Shut (M ++ ltL (l.take (t + 1)) = MX ++ [a_name] ++ ltL a_thn ++ ltL a_els) := shut (by
        rw [HT.out, ← List.append_assoc, ← HMX.out]
        unfold ltS
        simp)
      have n1 := OB.out.box BA
      have hlow := OB.out.low
      have ef := blk_cell OB.out.fn 0 (v := .func (.func 43) #[] #[.pointer (some ⟨go, 0, none⟩), .pointer (some ⟨gw, 0, none⟩)]) rfl
      obtain ⟨-, -, -, -, -, -, -, -, -, ae30, -⟩ := StB al_ty al_place al_val al_cond GCA.out BA
      have hc := HR.out.1 w3 p30 q30 go gw a2 c2 (MX ++ [a_name]) ah_thn OB.out (by have := HC.out; (try simp only [List.length_append, List.length_cons, List.length_nil]); omega)
      clear hlow
      repeat (first | rw [if_neg Bool.false_ne_true] | go_values | go_skip | go_guarded | go_step | go_upon | go_back)
      refine hc.mono ?_
      rintro e w5 ⟨rfl, a5, c5, O5, k5, m5⟩
      have BA := k5.blk BA n1
      have ah_els := ah_els.keeps k5 OB.out.low (fun _ h => h) (fun _ _ _ h => h.keeps k5 OB.out.low (fun _ h => h))
      have KB := KB.trans k5 (fun i hi hlt => by
        rcases hi with rfl | hi
        · exact .inl rfl
        · rcases MV with MV | ⟨g', hg', hb⟩
          · exact .inr (by rw [← MV]; exact hi)
          · rw [hg'] at hi
            obtain rfl : g' = i := by simpa using hi
            exact absurd hlt (by omega))
      have MV := MV.trans m5 (KS.out)
      have O5 := shut O5
      have KS : Shut (w.heap.size ≤ w5.heap.size) := shut KB.size
      clear hc ef ae30 n1 OB k5 m5
      try dsimp only
      have n1 := O5.out.box BA
      have ef := blk_cell O5.out.fn 0 (v := .func (.func 43) #[] #[.pointer (some ⟨go, 0, none⟩), .pointer (some ⟨gw, 0, none⟩)]) rfl
      obtain ⟨-, -, -, -, -, -, -, -, -, -, ae31⟩ := StB al_ty al_place al_val al_cond GCA.out BA
      have hc := HR.out.2 w5 p31 q31 go gw a5 c5 (MX ++ [a_name] ++ ltL a_thn) ah_els O5.out (by have := HC.out; have := ltL_len a_thn; (try simp only [List.length_append, List.length_cons, List.length_nil]); omega)
      repeat (first | rw [if_neg Bool.false_ne_true] | go_values | go_skip | go_guarded | go_step | go_upon | go_back)
      refine hc.mono ?_
      rintro e w6 ⟨rfl, a6, c6, O6, k6, m6⟩
      have KB := KB.trans k6 (fun i hi hlt => by
        rcases hi with rfl | hi
        · exact .inl rfl
        · rcases MV with MV | ⟨g', hg', hb⟩
          · exact .inr (by rw [← MV]; exact hi)
          · rw [hg'] at hi
            obtain rfl : g' = i := by simpa using hi
            exact absurd hlt (by omega))
      have MV := MV.trans m6 (KS.out)
      rw [← HE.out] at O6
      have O6 := shut O6
      clear hc ef ae31 n1 O5 k6 m6 HE HT
      go_wp2_with fail
      go_roundw
      case rel => exact ⟨t + 1, a6, c6, by go_num, by omega, O6.out, KB, MV⟩
      case measure => simp [intOf]; omega
    · have KS : Shut (w.heap.size ≤ wb.heap.size) := shut KB.size
      obtain ⟨ae0, -, -, -, -, -, -, -, -, -, -⟩ := StB al_ty al_place al_val al_cond GCA.out BA
      have hq : (a_kind == 1) = false := by rw [beq_eq_false_iff_ne]; exact k1
      go_upto_region 5 with fail
      clear ae0 hq
      have HE : Shut (M ++ ltL (l.take (t + 1)) = MX ++ ltL a_thn ++ ltL a_els) := shut (by
        rw [HT.out, ← List.append_assoc, ← HMX.out]
        unfold ltS
        simp [k1])
      have n1 := OB.out.box BA
      have hlow := OB.out.low
      have ef := blk_cell OB.out.fn 0 (v := .func (.func 43) #[] #[.pointer (some ⟨go, 0, none⟩), .pointer (some ⟨gw, 0, none⟩)]) rfl
      obtain ⟨-, -, -, -, -, -, -, -, -, ae30, -⟩ := StB al_ty al_place al_val al_cond GCA.out BA
      have hc := HR.out.1 wb p30 q30 go gw aX cX (MX) ah_thn OB.out (by have := HC.out; (try simp only [List.length_append, List.length_cons, List.length_nil]); omega)
      clear hlow
      repeat (first | rw [if_neg Bool.false_ne_true] | go_values | go_skip | go_guarded | go_step | go_upon | go_back)
      refine hc.mono ?_
      rintro e w5 ⟨rfl, a5, c5, O5, k5, m5⟩
      have BA := k5.blk BA n1
      have ah_els := ah_els.keeps k5 OB.out.low (fun _ h => h) (fun _ _ _ h => h.keeps k5 OB.out.low (fun _ h => h))
      have KB := KB.trans k5 (fun i hi hlt => by
        rcases hi with rfl | hi
        · exact .inl rfl
        · rcases MV with MV | ⟨g', hg', hb⟩
          · exact .inr (by rw [← MV]; exact hi)
          · rw [hg'] at hi
            obtain rfl : g' = i := by simpa using hi
            exact absurd hlt (by omega))
      have MV := MV.trans m5 (KS.out)
      have O5 := shut O5
      have KS : Shut (w.heap.size ≤ w5.heap.size) := shut KB.size
      clear hc ef ae30 n1 OB k5 m5
      try dsimp only
      have n1 := O5.out.box BA
      have ef := blk_cell O5.out.fn 0 (v := .func (.func 43) #[] #[.pointer (some ⟨go, 0, none⟩), .pointer (some ⟨gw, 0, none⟩)]) rfl
      obtain ⟨-, -, -, -, -, -, -, -, -, -, ae31⟩ := StB al_ty al_place al_val al_cond GCA.out BA
      have hc := HR.out.2 w5 p31 q31 go gw a5 c5 (MX ++ ltL a_thn) ah_els O5.out (by have := HC.out; have := ltL_len a_thn; (try simp only [List.length_append, List.length_cons, List.length_nil]); omega)
      repeat (first | rw [if_neg Bool.false_ne_true] | go_values | go_skip | go_guarded | go_step | go_upon | go_back)
      refine hc.mono ?_
      rintro e w6 ⟨rfl, a6, c6, O6, k6, m6⟩
      have KB := KB.trans k6 (fun i hi hlt => by
        rcases hi with rfl | hi
        · exact .inl rfl
        · rcases MV with MV | ⟨g', hg', hb⟩
          · exact .inr (by rw [← MV]; exact hi)
          · rw [hg'] at hi
            obtain rfl : g' = i := by simpa using hi
            exact absurd hlt (by omega))
      have MV := MV.trans m6 (KS.out)
      rw [← HE.out] at O6
      have O6 := shut O6
      clear hc ef ae31 n1 O5 k6 m6 HE HT
      go_wp2_with fail
      go_roundw
      case rel => exact ⟨t + 1, a6, c6, by go_num, by omega, O6.out, KB, MV⟩
      case measure => simp [intOf]; omega

theorem lets_st {N : Nat} : ∀ a : StD, LetsC N a.thn ∧ LetsC N a.els := by
  refine StD.ind ?_
  intro a_kind a_pos a_mu a_name a_ty a_has a_place a_val a_cond a_thn a_els ih_thn ih_els
  exact ⟨lets_of ih_thn, lets_of ih_els⟩
theorem lets_any {N : Nat} (l : List StD) : LetsC N l := lets_of (fun e _ => lets_st e)

end Go.Proofs.Ytjbcagbnagefcaa

namespace Go.Proofs.Ytjbcagbnagefcaa
open Go.RowKit

attribute [local go_sem ↓] exec_mid_ty exec_store_ty exec_mid_pl exec_store_pl exec_mid_opr exec_store_opr exec_mid_val exec_store_val exec_mid_st exec_store_st exec_mid_fld exec_store_fld exec_mid_str exec_store_str exec_mid_lif exec_store_lif exec_mid_fun exec_store_fun exec_mid_cr exec_store_cr
attribute [local go_sem] rowOk_new World.setRow_alloc_new

/-- The names of a function's parameters and lets. -/
def nmD (a : FunD) : List (List UInt8) := a.params.map FldD.name ++ ltL a.body
/-- It tells these texts, in new memory. -/
def TextsPost (w : World) (l : List (List UInt8)) (e : Ending) (w' : World) : Prop :=
  ∃ aR cR, e = .returned (.slice aR l.length cR) ∧ RowR w' 9 aR cR (l.map txV) ∧ Keeps Nothing w w' ∧ ∀ g, blockOf aR = some g → w.heap.size ≤ g
/-- The box of names. -/
structure OutB (N : Nat) (w : World) (go : Nat) (aR : Option Addr) (cR : Nat) (M : List (List UInt8)) : Prop where
  lo : N ≤ go
  new : ∀ g, blockOf aR = some g → N ≤ g
  out : Blk w go #[.slice aR M.length cR] 30
  row : RowR w 9 aR cR (M.map txV)
theorem OutB.keepsN {N : Nat} {w w' : World} {go : Nat} {aR : Option Addr} {cR : Nat} {M : List (List UInt8)} (h : OutB N w go aR cR M) (k : Keeps Nothing w w') : OutB N w' go aR cR M :=
  ⟨h.lo, h.new, k.blk h.out (fun h => h), h.row.keepsN k⟩
theorem OutB.push {N : Nat} {w0 w w2 : World} {go : Nat} {aR : Option Addr} {cR : Nat} {M : List (List UInt8)} (h : OutB N w go aR cR M) (K : Keeps Nothing w0 w) (hN : w0.heap.size = N) {x : List UInt8} {a2 : Option Addr} {c2 : Nat}
    (R2 : RowR w2 9 a2 c2 (M.map txV ++ [txV x])) (k : Keeps (fun k => blockOf aR = some k) w w2) (mv : Moved w.heap.size aR a2) :
    OutB N (w2.setCell ⟨go, 0, none⟩ (.slice a2 (M.length + 1) c2)) go a2 c2 (M ++ [x]) ∧ Keeps Nothing w0 (w2.setCell ⟨go, 0, none⟩ (.slice a2 (M.length + 1) c2)) ∧ w2.cell? ⟨go, 0, none⟩ = some (.slice aR M.length cR) ∧ w2.frozen? ⟨go, 0, none⟩ = false ∧
      ∀ {ga : Nat} {C : Array Value}, Blk w ga C 36 → Blk (w2.setCell ⟨go, 0, none⟩ (.slice a2 (M.length + 1) c2)) ga C 36 := by
  have n1 : blockOf aR ≠ some go := h.row.ne h.out (by decide)
  have b1 := k.blk h.out n1
  have n3 : blockOf a2 ≠ some go := R2.ne b1 (by decide)
  have hsz := K.size
  refine ⟨⟨h.lo, ?_, ?_, ?_⟩, ?_, blk_cell b1 0 rfl, blk_free b1 0, ?_⟩
  · intro g hg
    rcases mv with mv | ⟨g', hg', hb⟩
    · exact h.new g (by rw [← mv]; exact hg)
    · rw [hg'] at hg
      obtain rfl : g' = g := by simpa using hg
      omega
  · have b3 := blk_set b1 0 (.slice a2 (M.length + 1) c2)
    rw [List.length_append]
    exact b3
  · rw [List.map_append]
    exact R2.keeps ((Keeps.refl (fun i => i = go) w2).setCell (p := ⟨go, 0, none⟩) (fun _ => rfl) _) (fun g hg e => n3 (by rw [hg, e]))
  · refine (K.trans k (fun i hi hlt => ?_)).setCell (p := ⟨go, 0, none⟩) (fun hlt => ?_) _
    · have := h.new i hi
      omega
    · have := h.lo
      have : go < w0.heap.size := hlt
      omega
  · intro ga C hb
    have n2 : blockOf aR ≠ some ga := h.row.ne hb (by decide)
    have b2 := k.blk hb n2
    refine blk_other b2 ⟨go, 0, none⟩ (fun e => ?_) _
    have e2 : ga = go := e
    subst e2
    have h3 : some (Obj.cells C 36 (0, 0)) = some (Obj.cells #[.slice aR M.length cR] 30 (0, 0)) := by
      have h4 := h.out
      rw [← h4]; exact hb.symm
    simp at h3

set_option maxRecDepth 100000 in
set_option linter.unusedSimpArgs false in
set_option maxHeartbeats 8000000 in
theorem names_any (a : FunD) (w : World) (cs : List Value) (ha : FunIs (· < w.heap.size) w a cs) (hB : a.params.length + cntL a.body ≤ 1000000000) : Calls Try.prog 24 #[.agg cs.toArray] w (TextsPost w (nmD a)) := by
  obtain ⟨a_pub, a_name, a_lives, a_params, a_result, a_body, a_pos⟩ := a
  obtain ⟨N, hN⟩ : ∃ N, w.heap.size = N := ⟨_, rfl⟩
  rw [hN] at ha
  have HB := shut hB
  clear hB
  have HNN := shut hN
  clear hN
  obtain ⟨P, hP⟩ : ∃ P, P = TextsPost w (nmD ⟨a_pub, a_name, a_lives, a_params, a_result, a_body, a_pos⟩) := ⟨_, rfl⟩
  rw [← hP]
  have HPP := shut hP
  clear hP
  have ag1 := agg_ok ha.len ha.one
  obtain ⟨p2, q2, p3, q3, s4, p8, q8, hcs, ah_name, ah_lives, ah_params, ah_result, ah_body⟩ := ha
  have HCA := shut hcs
  clear hcs
  simp only at ah_name ah_lives ah_params ah_result ah_body HCA
  obtain ⟨CA, hCA⟩ : ∃ C, C = cs.toArray := ⟨_, rfl⟩
  rw [← hCA] at ag1 ⊢
  rw [HCA.out] at hCA
  have GCA := shut hCA
  clear hCA HCA
  have al_result := ah_result.len
  have KW : Keeps Nothing w (w.alloc (.cells CA 36)) := (Keeps.refl Nothing w).alloc _
  have BA := blk_new w CA 36
  go_enter Try.func24, Try.ntmps24
  go_upto_region 1 with fail
  clear ag1
  have hga : N ≤ w.heap.size := Nat.le_of_eq HNN.out.symm
  generalize hga2 : w.heap.size = ga at *
  have HGA := shut hga2
  clear hga2
  generalize w.alloc (.cells CA 36) = wb at *
  obtain ⟨n, hn⟩ : ∃ n, a_params.length = n := ⟨_, rfl⟩
  have hnb : n ≤ bigN := by rw [← hn]; exact ah_params.1
  unfold bigN at hnb
  rw [hn] at GCA
  have HN := shut hn
  clear hn
  go_upto_region 2 with fail
  have hlo : N ≤ wb.heap.size := by have h1 := KW.size; have h2 := HGA.out; omega
  have ka : Keeps Nothing wb (wb.alloc (.cells #[.slice none 0 0] 30)) := (Keeps.refl Nothing wb).alloc _
  have OB : OutB N (wb.alloc (.cells #[.slice none 0 0] 30)) wb.heap.size none 0 [] := ⟨hlo, fun g h => (by cases h), blk_new _ _ _, rowR_nil _ _⟩
  have BA := ka.blk BA (fun h => h)
  have KW := KW.trans ka (fun _ h _ => h)
  clear ka hlo
  generalize wb.heap.size = go at *
  generalize wb.alloc (.cells #[.slice none 0 0] 30) = wc at *
  have OB := shut OB
  obtain ⟨-, -, -, ae3, -, -, -⟩ := FunB al_result GCA.out BA
  go_wp2_with fail
  clear ae3
  have hlow : ∀ b, (fun x => x < N) b → ¬ Nothing b := fun _ _ h => h
  go_loopw [5, 10] (fun s5 s10 wx => ∃ (t : Nat) (aX : Option Addr) (cX : Nat), s10 = .int .i64 t ∧ t ≤ n ∧ OutB N wx go aX cX ((a_params.take t).map FldD.name) ∧ Keeps Nothing w wx ∧ Blk wx ga CA 36) (fun _ s10 _ => n - (intOf s10).toNat)
  case atStart => exact ⟨0, none, 0, rfl, Nat.zero_le _, by simpa using OB.out, KW, BA⟩
  case round =>
    obtain ⟨t, aX, cX, rfl, ht, OX, KX, BX⟩ := hrel
    have OX := shut OX
    clear KW BA OB
    have KW := KX
    have BA := BX
    clear KX BX
    by_cases hlt : t < n
    · obtain ⟨a, hat⟩ : ∃ a, a_params[t]? = some a := ⟨_, List.getElem?_eq_getElem (by rw [HN.out]; exact hlt)⟩
      obtain ⟨g1, o1, rfl, -, cs, l1, r1, hi⟩ := (ah_params.keeps KW (fun _ _ h => h) (fun _ h => h) (fun _ _ _ h => h.keeps KW (fun _ _ h => h) (fun _ h => h))).get hat
      have HT : Shut ((a_params.take (t + 1)).map FldD.name = (a_params.take t).map FldD.name ++ [a.name]) := shut (by rw [List.take_add_one, hat]; simp)
      clear hat
      have m0 : (0 : Int) ≤ t := by omega
      have m1 : (t : Int) < n := by omega
      have ag1 := agg_ok l1 hi.one
      obtain ⟨CB, hCB⟩ : ∃ C, C = cs.toArray := ⟨_, rfl⟩
      obtain ⟨hk, ho⟩ := sub_of r1 l1
      rw [← hCB] at ag1 ho
      have HCB := shut hCB
      clear hCB r1 l1
      go_upto_region 5 with fail
      have ka : Keeps Nothing wr (wr.alloc (.cells CB 50)) := (Keeps.refl Nothing wr).alloc _
      have BB := blk_new wr CB 50
      have OB := shut (OX.out.keepsN ka)
      have KW := KW.trans ka (fun _ h _ => h)
      have BA := ka.blk BA (fun h => h)
      clear hk ho ag1 ka OX
      generalize wr.heap.size = gb at *
      generalize wr.alloc (.cells CB 50) = wd at *
      obtain ⟨f_mu, f_name, f_ty⟩ := a
      obtain ⟨s2, hcs, fh_name, fh_ty⟩ := hi
      rw [hcs] at HCB
      simp only at fh_ty HCB HT
      have fl_ty := fh_ty.len
      clear fh_ty hcs
      obtain ⟨M, hM⟩ : ∃ M, M = (a_params.take t).map FldD.name := ⟨_, rfl⟩
      have hbM : M.length ≤ 1000000000 := by rw [hM]; simp only [List.length_map, List.length_take]; omega
      rw [← hM] at OB HT
      clear hM
      have D1 := blk_new wd #[.string ⟨f_name.toArray⟩] 9
      have kd : Keeps Nothing wd (wd.alloc (.cells #[.string ⟨f_name.toArray⟩] 9)) := (Keeps.refl Nothing wd).alloc _
      have OD := shut (OB.out.keepsN kd)
      have BD := kd.blk BA (fun h => h)
      have KD := KW.trans kd (fun _ h _ => h)
      have eo := blk_cell OB.out.out 0 (v := .slice aX M.length cX) rfl
      obtain ⟨-, fe1, -⟩ := FldB fl_ty HCB.out BB
      unfold txV at fe1
      have HW : Shut (w.heap.size = N) := shut (HGA.out.trans HNN.out)
      go_wp2_with (at_builtin; refine wpList_appZ _ rfl (.tmp 14) (.tmp 17) rfl aX cX (M.map txV) M.length (by simp) rfl OD.out.row _ 1 [txV f_name] rfl (src_str1 D1) hbM (by omega) ?_)
      intro a2 c2 w2 R2 _ k2 m2
      obtain ⟨O2, K2, e2, f2, B2⟩ := OD.out.push KD HW.out R2 k2 (by rw [World.size_alloc]; exact m2)
      have BE := B2 BD
      clear B2
      rw [← HT.out] at O2
      have O2 := shut O2
      go_upto_region 6 with fail
      any_goals try (rename_i hfz; simp [f2] at hfz; done)
      clear D1 kd OD BD KD eo fe1 R2 k2 m2 e2 f2 OB HT
      go_wp2_with fail
      go_roundw
      case rel => exact ⟨t + 1, a2, c2, by go_num, by omega, O2.out, K2, BE⟩
      case measure => simp [intOf]; omega
    · obtain rfl : t = n := by omega
      have m1 : ¬ (t : Int) < t := by omega
      have O1 := OX.out
      rw [List.take_of_length_le (Nat.le_of_eq HN.out)] at O1
      have OB := shut O1
      clear OX O1
      go_upto_region 9 with fail
      have ka : Keeps Nothing wr (wr.alloc (.cells #[.func (.func 43) #[] #[.pointer (some ⟨go, 0, none⟩), .pointer (some ⟨wr.heap.size, 0, none⟩)]] 66)) := (Keeps.refl Nothing wr).alloc _
      have hgw : go ≠ wr.heap.size := Nat.ne_of_lt (lt_of_block OB.out.out)
      have OW : OutW N (wr.alloc (.cells #[.func (.func 43) #[] #[.pointer (some ⟨go, 0, none⟩), .pointer (some ⟨wr.heap.size, 0, none⟩)]] 66)) go wr.heap.size aX cX (a_params.map FldD.name) := ⟨OB.out.lo, hgw, OB.out.new, ka.blk OB.out.out (fun h => h), blk_new _ _ _, OB.out.row.keepsN ka⟩
      have BA := ka.blk BA (fun h => h)
      have KW := KW.trans ka (fun _ h _ => h)
      clear ka hgw OB
      generalize hgw : wr.heap.size = gw at *
      clear hgw
      generalize wr.alloc (.cells #[.func (.func 43) #[] #[.pointer (some ⟨go, 0, none⟩), .pointer (some ⟨gw, 0, none⟩)]] 66) = wg at *
      have ef := blk_cell OW.fn 0 (v := .func (.func 43) #[] #[.pointer (some ⟨go, 0, none⟩), .pointer (some ⟨gw, 0, none⟩)]) rfl
      have hc := lets_any a_body wg p8 q8 go gw aX cX (a_params.map FldD.name) (ah_body.keeps KW (fun _ _ h => h) (fun _ h => h) (fun _ _ _ h => h.keeps KW (fun _ _ h => h) (fun _ h => h))) OW (by have := HB.out; rw [List.length_map]; exact this)
      have HOW := shut OW
      clear OW
      obtain ⟨-, -, -, -, -, ae8, -⟩ := FunB al_result GCA.out BA
      go_wp2_with fail
      refine hc.mono ?_
      rintro e w5 ⟨rfl, a5, c5, O5, k5, m5⟩
      have KW := KW.trans k5 (fun i hi hlt => by
        have h1 := HGA.out
        have h2 := HNN.out
        rcases hi with rfl | hi
        · have := HOW.out.lo; omega
        · have := HOW.out.new i hi; omega)
      have eo := blk_cell O5.out 0 (v := .slice a5 (a_params.map FldD.name ++ ltL a_body).length c5) rfl
      have HO := shut O5
      clear hc ef ae8 O5
      go_wp2_with fail
      rw [HPP.out]
      refine ⟨a5, c5, by simp [nmD], HO.out.row, KW, fun g hg => ?_⟩
      have h1 := HGA.out
      have h2 := HNN.out
      have := HO.out.new g hg
      omega

end Go.Proofs.Ytjbcagbnagefcaa
