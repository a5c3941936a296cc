/- Package manifest: head. -/
import Derived.Test.YtiliajnijjkcdaaDoorMan4
namespace Go.Proofs.YtiliajnijjkcdaaDoor
open Go.RowKit

attribute [local go_sem ↓] exec_mid_src exec_store_src
attribute [local go_sem] rowOk_new World.setRow_alloc_new aggOk_src

/-- A head as it is returned. -/
def HeadIs (w w' : World) : HeadD → Array Value → Bool → Prop
  | none, C, z => z = false ∧ C = #[.string ⟨#[]⟩, .slice none 0 0, .string ⟨#[]⟩]
  | some (nm, deps), C, z => z = true ∧ ∃ ao c, C = #[txV nm, .slice ao deps.length c, .string ⟨#[]⟩] ∧ RowR w' 9 ao c (deps.map txV) ∧ ∀ g, blockOf ao = some g → w.heap.size ≤ g
def HeadPost (w : World) (r : HeadD) (e : Ending) (w' : World) : Prop := ∃ C z, e = .returned (.tuple #[.agg C, .bool z]) ∧ Keeps Nothing w w' ∧ HeadIs w w' r C z
theorem results_srow {P : Program} {fn : Func} {p u : Tmp} {ty : TypeId} (h : fn.results = #[.cell p ty, .tmp u]) (tmps : Array Value) (w : World) (g : Nat) (cs : Array Value) (ev : Value)
    (hp : tmps.getD p undef = .pointer (some ⟨g, 0, none⟩)) (hu : tmps.getD u undef = ev) (hl : (loadVar ty ⟨g, 0, none⟩).run P w = .ok (.agg cs) w) : (results fn tmps).run P w = .ok (.tuple #[.agg cs, ev]) w := by
  rw [results_cell_tmp h, hp, hu]
  simp [asAddr, hl]

theorem cut_len (s p : List UInt8) : (Lib.cut s p).1.length ≤ s.length ∧ (Lib.cut s p).2.1.length ≤ s.length := by
  unfold Lib.cut
  split
  · simp only [List.length_take, List.length_drop]; omega
  · simp
/-- What split left. -/
def headS (a : List UInt8) : List (List UInt8) → HeadD
  | x :: r => if x = [] ∧ r ≠ [] ∧ r.all isName = true then some (a, r) else none
  | [] => none
theorem headS_cons (a x : List UInt8) (r : List (List UInt8)) : headS a (x :: r) = if x = [] ∧ r ≠ [] ∧ r.all isName = true then some (a, r) else none := rfl
theorem headP_eq (b : List UInt8) : headP b = if Lib.hasPrefix b [61, 61, 32] = true then if isName (Lib.cut (b.drop 3) [32, 58]).1 = true then if (Lib.cut (b.drop 3) [32, 58]).2.2 = true then headS (Lib.cut (b.drop 3) [32, 58]).1 (blanksL (Lib.cut (b.drop 3) [32, 58]).2.1) else some ((Lib.cut (b.drop 3) [32, 58]).1, []) else none else none := by
  unfold headP
  obtain ⟨x, r, e⟩ := blanks_ne (Lib.cut (b.drop 3) [32, 58]).2.1
  rw [e]
  cases r with
  | nil =>
    have : headS (Lib.cut (b.drop 3) [32, 58]).1 [x] = none := by rw [headS_cons, if_neg (by simp)]
    rw [this]
  | cons d ds =>
    have : headS (Lib.cut (b.drop 3) [32, 58]).1 (x :: d :: ds) = if x = [] ∧ (d :: ds).all isName = true then some ((Lib.cut (b.drop 3) [32, 58]).1, d :: ds) else none := by
      rw [headS_cons]
      by_cases h : x = [] ∧ (d :: ds).all isName = true
      · rw [if_pos h, if_pos ⟨h.1, by simp, h.2⟩]
      · rw [if_neg h, if_neg (fun q => h ⟨q.1, q.2.2⟩)]
    rw [this]
theorem all_upto {l : List (List UInt8)} {i : Nat} {x : List UInt8} (hi : l[i]? = some x) (h : (l.take i).all isName = true) (hx : isName x = true) : (l.take (i + 1)).all isName = true := by
  rw [List.take_add_one, hi, List.all_append, h]
  simp [hx]

set_option maxRecDepth 100000 in
set_option linter.unusedSimpArgs false in
set_option maxHeartbeats 4000000 in
theorem head_any (w : World) (b : List UInt8) (hM : MaxV w) (hb : b.length ≤ 10000000) : Calls Tryd.prog 23 #[.string ⟨b.toArray⟩] w (HeadPost w (headP b)) := by
  have hc := fun W => cutPrefix_any b [61, 61, 32] W
  have hr := headP_eq b
  obtain ⟨R, hR⟩ : ∃ R, headP b = R := ⟨_, rfl⟩
  rw [hR] at hr ⊢
  clear hR
  have KW : Keeps Nothing w (w.alloc (.cells #[.string ⟨#[]⟩, .slice none 0 0, .string ⟨#[]⟩] 43)) := (Keeps.refl Nothing w).alloc _
  have B2 := blk_new w #[.string ⟨#[]⟩, .slice none 0 0, .string ⟨#[]⟩] 43
  by_cases hp : Lib.hasPrefix b [61, 61, 32] = true
  rotate_left
  · rw [if_neg hp] at hr
    subst hr
    rw [Bool.not_eq_true] at hp
    rw [hp] at hc
    generalize Lib.trimPrefix b [61, 61, 32] = t at *
    clear hM
    go_enter Tryd.func23, Tryd.ntmps23
    go_wp2_with fail
    refine (hc _).mono ?_
    rintro e w1 ⟨rfl, rfl⟩
    go_wp2_with fail
    refine bodyPost_ret (v := .tuple #[.agg #[.string ⟨#[]⟩, .slice none 0 0, .string ⟨#[]⟩], .bool false]) (results_srow rfl _ _ _ _ _ rfl rfl (loadVar_src _ _ _ _ B2 rfl)) rfl ?_
    exact ⟨_, _, rfl, KW, rfl, rfl⟩
  rw [if_pos hp] at hr
  have htp : Lib.trimPrefix b [61, 61, 32] = b.drop 3 := by unfold Lib.trimPrefix; rw [if_pos hp]; rfl
  rw [hp, htp] at hc
  have hRl : (b.drop 3).length ≤ 10000000 := by rw [List.length_drop]; omega
  generalize b.drop 3 = rs at *
  clear htp hp
  have hcut := fun W hW => cut_any rs [32, 58] W hW (by omega)
  obtain ⟨l1, l2⟩ := cut_len rs [32, 58]
  generalize (Lib.cut rs [32, 58]).1 = a at *
  generalize (Lib.cut rs [32, 58]).2.1 = d at *
  generalize (Lib.cut rs [32, 58]).2.2 = more at *
  have HR := shut hr
  clear hr
  have hname := fun W => lname_any W a (by omega)
  have HM := shut hM
  clear hM
  go_enter Tryd.func23, Tryd.ntmps23
  go_wp2_with fail
  refine (hc _).mono ?_
  rintro e w1 ⟨rfl, rfl⟩
  clear hc
  generalize w.alloc (.cells #[.string ⟨#[]⟩, .slice none 0 0, .string ⟨#[]⟩] 43) = w1 at *
  have hct := hcut _ (HM.out.keeps KW)
  clear hcut
  go_wp2_with fail
  refine hct.mono ?_
  rintro e w2 ⟨rfl, k2⟩
  have KW := KW.trans k2 (fun _ h _ => h)
  have B2 := k2.blk B2 (fun h => h)
  clear hct k2
  have hn := hname w2
  clear hname
  go_wp2_with fail
  refine hn.mono ?_
  rintro e w3 ⟨rfl, rfl⟩
  clear hn
  by_cases ha : isName a = true
  rotate_left
  · have hr := HR.out
    rw [if_neg ha] at hr
    subst hr
    rw [Bool.not_eq_true] at ha
    rw [ha]
    clear HM HR
    have r2 := rowOk_blk B2 (show (#[.string ⟨#[]⟩, .slice none 0 0, .string ⟨#[]⟩] : Array Value).size = 3 from rfl)
    have B3 := blk_setRow (cs := #[.string ⟨#[]⟩, .slice none 0 0, .string ⟨#[]⟩]) B2
    have KW := KW.setRow (g := w.heap.size) (fun h => absurd h (Nat.lt_irrefl _)) #[.string ⟨#[]⟩, .slice none 0 0, .string ⟨#[]⟩]
    clear B2
    go_wp2_with fail
    refine bodyPost_ret (v := .tuple #[.agg #[.string ⟨#[]⟩, .slice none 0 0, .string ⟨#[]⟩], .bool false]) (results_srow rfl _ _ _ _ _ rfl rfl (loadVar_src _ _ _ _ B3 rfl)) rfl ?_
    exact ⟨_, _, rfl, KW, rfl, rfl⟩
  rw [ha]
  have HRa : Shut (R = if more = true then headS a (blanksL d) else some (a, [])) := shut (by rw [HR.out, if_pos ha])
  clear HR
  have hs2 := lt_of_block B2
  have KW := KW.alloc (.cells #[txV a, .slice none 0 0, .string ⟨#[]⟩] 43)
  have B2 := blk_alloc B2 (.cells #[txV a, .slice none 0 0, .string ⟨#[]⟩] 43)
  have B9 := blk_new w3 #[txV a, .slice none 0 0, .string ⟨#[]⟩] 43
  unfold txV at KW B2 B9
  cases more with
  | false =>
    obtain rfl : R = some (a, []) := HRa.out
    clear HRa HM
    have r2 := rowOk_blk B2 (show (#[.string ⟨#[]⟩, .slice none 0 0, .string ⟨#[]⟩] : Array Value).size = 3 from rfl)
    obtain ⟨y1, y2⟩ := tblk_mid B9 (show (#[.string ⟨a.toArray⟩, .slice none 0 0, .string ⟨#[]⟩] : Array Value).size = 3 from rfl)
    have B3 := blk_setRow (cs := #[.string ⟨a.toArray⟩, .slice none 0 0, .string ⟨#[]⟩]) B2
    have KW := KW.setRow (g := w.heap.size) (fun h => absurd h (Nat.lt_irrefl _)) #[.string ⟨a.toArray⟩, .slice none 0 0, .string ⟨#[]⟩]
    clear B2 B9
    go_wp2_with fail
    refine bodyPost_ret (v := .tuple #[.agg #[.string ⟨a.toArray⟩, .slice none 0 0, .string ⟨#[]⟩], .bool true]) (results_srow rfl _ _ _ _ _ rfl rfl (loadVar_src _ _ _ _ B3 rfl)) rfl ?_
    exact ⟨_, _, rfl, KW, rfl, none, 0, rfl, rowR_nil _ _, fun g hg => by cases hg⟩
  | true =>
    have HRb : Shut (R = headS a (blanksL d)) := HRa
    clear HRa
    have hsp := split_any d (w3.alloc (.cells #[.string ⟨a.toArray⟩, .slice none 0 0, .string ⟨#[]⟩] 43)) (HM.out.keeps KW) (by omega)
    have hbl := blanks_len d
    have hbs := fun x => blanks_sub d (x := x)
    obtain ⟨x0, rest, hx0⟩ := blanks_ne d
    rw [hx0] at hsp hbl hbs HRb
    simp only [List.length_cons] at hbl hsp
    go_upto_region 10 with fail
    have h29 : w.heap.size ≠ w3.heap.size := by omega
    have hg9 := lt_of_block B9
    have hs9 : w.heap.size ≤ w3.heap.size := by omega
    generalize w3.heap.size = g9 at *
    generalize w3.alloc (.cells #[.string ⟨a.toArray⟩, .slice none 0 0, .string ⟨#[]⟩] 43) = w4 at *
    have hbs2 : Shut (∀ x ∈ rest, x.length ≤ 10000000) := shut (fun x hx => Nat.le_trans (hbs x (List.mem_cons_of_mem _ hx)).2 (by omega))
    have KW := KW.alloc (.cells ((x0 :: rest).map txV).toArray 9)
    have B2 := blk_alloc B2 (.cells ((x0 :: rest).map txV).toArray 9)
    have B9 := blk_alloc B9 (.cells ((x0 :: rest).map txV).toArray 9)
    have BS := blk_new w4 ((x0 :: rest).map txV).toArray 9
    obtain ⟨n, hn⟩ : ∃ n, rest.length = n := ⟨_, rfl⟩
    rw [hn] at hsp hbl
    have HN := shut hn
    clear hn hbs hx0
    go_wp2_with fail
    refine hsp.mono ?_
    rintro e w5 ⟨rfl, rfl⟩
    clear hsp
    have hgs := lt_of_block BS
    have c0 := blk_cell BS 0 (v := .string ⟨x0.toArray⟩) (by simp [txV])
    have hNS : Shut (∀ j x, rest[j]? = some x → (w4.alloc (.cells ((x0 :: rest).map txV).toArray 9)).cell? ⟨w4.heap.size, 1 + j, none⟩ = some (txV x)) := shut (fun j x hj => blk_cell BS (1 + j) (by rw [Nat.add_comm 1 j]; simp [hj]))
    clear BS
    generalize hW5 : w4.alloc (.cells ((x0 :: rest).map txV).toArray 9) = w5 at *
    have h5s : w5.heap.size = w4.heap.size + 1 := by rw [← hW5]; simp
    clear hW5
    generalize w4.heap.size = gs at *
    go_upto_region 11 with fail
    by_cases hx0 : x0 = []
    rotate_left
    · have hr : R = none := by rw [HRb.out, headS_cons, if_neg (fun q => hx0 q.1)]
      subst hr
      have q1 : (x0 == []) = false := by rw [beq_eq_false_iff_ne]; exact hx0
      clear HRb HM HN hNS hbs2 hx0
      have r2 := rowOk_blk B2 (show (#[.string ⟨#[]⟩, .slice none 0 0, .string ⟨#[]⟩] : Array Value).size = 3 from rfl)
      have B3 := blk_setRow (cs := #[.string ⟨#[]⟩, .slice none 0 0, .string ⟨#[]⟩]) B2
      have KW := KW.setRow (g := w.heap.size) (fun h => absurd h (Nat.lt_irrefl _)) #[.string ⟨#[]⟩, .slice none 0 0, .string ⟨#[]⟩]
      clear B2 B9
      go_wp2_with fail
      refine bodyPost_ret (v := .tuple #[.agg #[.string ⟨#[]⟩, .slice none 0 0, .string ⟨#[]⟩], .bool false]) (results_srow rfl _ _ _ _ _ rfl rfl (loadVar_src _ _ _ _ B3 rfl)) rfl ?_
      exact ⟨_, _, rfl, KW, rfl, rfl⟩
    subst hx0
    by_cases h0 : n = 0
    · subst h0
      have hrest : rest = [] := List.eq_nil_of_length_eq_zero HN.out
      have hr : R = none := by rw [HRb.out, headS_cons, if_neg (fun q => q.2.1 hrest)]
      subst hr
      clear HRb HM HN hNS hbs2 hrest
      have r2 := rowOk_blk B2 (show (#[.string ⟨#[]⟩, .slice none 0 0, .string ⟨#[]⟩] : Array Value).size = 3 from rfl)
      have B3 := blk_setRow (cs := #[.string ⟨#[]⟩, .slice none 0 0, .string ⟨#[]⟩]) B2
      have KW := KW.setRow (g := w.heap.size) (fun h => absurd h (Nat.lt_irrefl _)) #[.string ⟨#[]⟩, .slice none 0 0, .string ⟨#[]⟩]
      clear B2 B9
      go_wp2_with fail
      refine bodyPost_ret (v := .tuple #[.agg #[.string ⟨#[]⟩, .slice none 0 0, .string ⟨#[]⟩], .bool false]) (results_srow rfl _ _ _ _ _ rfl rfl (loadVar_src _ _ _ _ B3 rfl)) rfl ?_
      exact ⟨_, _, rfl, KW, rfl, rfl⟩
    have m1 : ¬ (n : Int) + 1 = 1 := by omega
    have m2 : ((n + 1 : Nat) : Int) = (n : Int) + 1 := by omega
    have m5 : ((n : Int) + 1 == 1) = false := by rw [beq_eq_false_iff_ne]; exact m1
    have HRc : Shut (R = if rest.all isName = true then some (a, rest) else none) := shut (by
      rw [HRb.out, headS_cons]
      have hne : rest ≠ [] := by intro h; rw [h] at HN; exact h0 HN.out.symm
      by_cases hh : rest.all isName = true
      · rw [if_pos ⟨rfl, hne, hh⟩, if_pos hh]
      · rw [if_neg (fun q => hh q.2.2), if_neg hh])
    clear HRb
    go_wp2_with fail
    go_loopw [12, 51] (fun _ s51 wx => ∃ (i : Nat) (ao : Option Addr) (c : Nat), s51 = .int .i64 i ∧ i ≤ n ∧ Keeps Nothing w wx ∧ w5.heap.size ≤ wx.heap.size ∧ Blk wx w.heap.size #[.string ⟨#[]⟩, .slice none 0 0, .string ⟨#[]⟩] 43 ∧ Blk wx g9 #[.string ⟨a.toArray⟩, .slice ao i c, .string ⟨#[]⟩] 43 ∧
      Shut (∀ j x, rest[j]? = some x → wx.cell? ⟨gs, 1 + j, none⟩ = some (txV x)) ∧ RowR wx 9 ao c ((rest.take i).map txV) ∧ (∀ g, blockOf ao = some g → gs < g) ∧ Shut ((rest.take i).all isName = true)) (fun _ s51 _ => n - (intOf s51).toNat)
    case atStart => exact ⟨0, none, 0, rfl, Nat.zero_le _, KW, Nat.le_refl _, B2, B9, hNS, (by rw [List.take_zero]; exact rowR_nil _ _), (fun g hg => by cases hg), shut (by simp)⟩
    case round =>
      obtain ⟨i, ao, c, rfl, hi, KX, hsx, X2, X9, HXS, RX, NX, HAX⟩ := hrel
      clear KW B2 B9 hNS
      by_cases hlt : i < n
      rotate_left
      · obtain rfl : i = n := by omega
        have m3 : ¬ (i : Int) < i := by omega
        have hall : rest.all isName = true := by have := HAX.out; rwa [List.take_of_length_le (Nat.le_of_eq HN.out)] at this
        have hr : R = some (a, rest) := by rw [HRc.out, if_pos hall]
        have HRW : Shut (rest.take i = rest) := shut (List.take_of_length_le (Nat.le_of_eq HN.out))
        subst hr
        clear HRc HAX hall HM hbs2 HXS
        have r2 := rowOk_blk X2 (show (#[.string ⟨#[]⟩, .slice none 0 0, .string ⟨#[]⟩] : Array Value).size = 3 from rfl)
        obtain ⟨y1, y2⟩ := tblk_mid X9 (show (#[.string ⟨a.toArray⟩, .slice ao i c, .string ⟨#[]⟩] : Array Value).size = 3 from rfl)
        have B3 := blk_setRow (cs := #[.string ⟨a.toArray⟩, .slice ao i c, .string ⟨#[]⟩]) X2
        have KZ := KX.setRow (g := w.heap.size) (fun h => absurd h (Nat.lt_irrefl _)) #[.string ⟨a.toArray⟩, .slice ao i c, .string ⟨#[]⟩]
        have RZ : RowR (wr.setRow w.heap.size #[.string ⟨a.toArray⟩, .slice ao i c, .string ⟨#[]⟩]) 9 ao c (rest.map txV) := by
          have := RX.keeps ((Keeps.refl (fun q => q = w.heap.size) wr).setRow (g := w.heap.size) (fun _ => rfl) #[.string ⟨a.toArray⟩, .slice ao i c, .string ⟨#[]⟩]) (fun g hg e => by have := NX g hg; omega)
          rwa [HRW.out] at this
        clear HRW
        go_wp2_with fail
        refine bodyPost_ret (v := .tuple #[.agg #[.string ⟨a.toArray⟩, .slice ao i c, .string ⟨#[]⟩], .bool true]) (results_srow rfl _ _ _ _ _ rfl rfl (loadVar_src _ _ _ _ B3 rfl)) rfl ?_
        exact ⟨_, _, rfl, KZ, rfl, ao, c, by rw [HN.out]; rfl, RZ, fun g hg => by have := NX g hg; omega⟩
      obtain ⟨x, hx⟩ : ∃ x, rest[i]? = some x := ⟨_, List.getElem?_eq_getElem (by rw [HN.out]; exact hlt)⟩
      have hxc := HXS.out i x hx
      have HX := shut hx
      have hxl := hbs2.out x (List.mem_of_getElem? hx)
      have hxn := lname_any wr x (by omega)
      have m3 : (i : Int) < n := by omega
      have m4 : (0 : Int) ≤ i := by omega
      unfold txV at hxc
      clear hx
      by_cases hxa : isName x = true
      rotate_left
      · have hr : R = none := by
          rw [HRc.out, if_neg]
          intro hh
          rw [List.all_eq_true] at hh
          exact hxa (hh x (List.mem_of_getElem? HX.out))
        subst hr
        rw [Bool.not_eq_true] at hxa
        rw [hxa] at hxn
        clear HRc HAX HM hbs2 HXS HX
        have r2 := rowOk_blk X2 (show (#[.string ⟨#[]⟩, .slice none 0 0, .string ⟨#[]⟩] : Array Value).size = 3 from rfl)
        have B3 := blk_setRow (cs := #[.string ⟨#[]⟩, .slice none 0 0, .string ⟨#[]⟩]) X2
        have KZ := KX.setRow (g := w.heap.size) (fun h => absurd h (Nat.lt_irrefl _)) #[.string ⟨#[]⟩, .slice none 0 0, .string ⟨#[]⟩]
        clear X2 X9
        go_wp2_with fail
        refine hxn.mono ?_
        rintro e w6 ⟨rfl, rfl⟩
        clear hxn
        go_wp2_with fail
        refine bodyPost_ret (v := .tuple #[.agg #[.string ⟨#[]⟩, .slice none 0 0, .string ⟨#[]⟩], .bool false]) (results_srow rfl _ _ _ _ _ rfl rfl (loadVar_src _ _ _ _ B3 rfl)) rfl ?_
        exact ⟨_, _, rfl, KZ, rfl, rfl⟩
      rw [hxa] at hxn
      have HA2 := shut (all_upto HX.out HAX.out hxa)
      have D1 := blk_new wr #[.string ⟨x.toArray⟩] 9
      have kd : Keeps Nothing wr (wr.alloc (.cells #[.string ⟨x.toArray⟩] 9)) := (Keeps.refl Nothing wr).alloc _
      have RD := shut (RX.keepsN kd)
      have X9d := kd.blk X9 (fun h => h)
      have X2d := kd.blk X2 (fun h => h)
      have e9 := blk_cell X9 1 (v := .slice ao i c) rfl
      have e9d := blk_cell X9d 1 (v := .slice ao i c) rfl
      have hil : ((rest.take i).map txV).length = i := by rw [List.length_map, List.length_take, HN.out]; omega
      have HIL := shut hil
      clear hil HAX RX hxa
      go_wp2_with fail
      refine hxn.mono ?_
      rintro e w6 ⟨rfl, rfl⟩
      clear hxn
      go_wp2_with (at_builtin; refine wpList_appZ _ rfl (.tmp 60) (.tmp 62) rfl ao c ((rest.take i).map txV) i HIL.out rfl RD.out _ 1 [txV x] rfl (src_str1 D1) (by omega) (by omega) ?_)
      intro a2 c2 w7 R7 _ k7 m7
      have n9 : blockOf ao ≠ some g9 := fun h => by have := NX g9 h; omega
      have n2 : blockOf ao ≠ some w.heap.size := fun h => by have := NX _ h; omega
      have ns : blockOf ao ≠ some gs := fun h => by have := NX gs h; omega
      have X9e := k7.blk X9d n9
      have X2e := k7.blk X2d n2
      have e9e := blk_cell X9e 1 (v := .slice ao i c) rfl
      have f9e := blk_free X9e 1
      have hcast : ((i + 1 : Nat) : Int) = (i : Int) + 1 := by omega
      go_wp2_with fail
      any_goals try (rename_i hfz; simp [f9e] at hfz; done)
      have hsz7 := k7.size
      rw [World.size_alloc] at hsz7
      have NX2 : ∀ g, blockOf a2 = some g → gs < g := fun g hg => by
        rcases m7 with m7 | ⟨g', m7, hb⟩
        · exact NX g (by rw [← m7]; exact hg)
        · rw [m7] at hg
          obtain rfl : g' = g := by simpa using hg
          omega
      have ks : Keeps (fun q => q = g9) w7 (w7.setCell ⟨g9, 1, none⟩ (.slice a2 (i + 1) c2)) := (Keeps.refl (fun q => q = g9) w7).setCell (p := ⟨g9, 1, none⟩) (fun _ => rfl) _
      have K8 := ((KX.trans kd (fun _ h _ => h)).trans k7 (fun j hj hlt => by have := NX j hj; omega)).trans ks (fun j hj hlt => by subst hj; omega)
      have X2f := ks.blk X2e h29
      have X9f := blk_set X9e 1 (.slice a2 (i + 1) c2)
      have HXS2 : Shut (∀ j x, rest[j]? = some x → (w7.setCell ⟨g9, 1, none⟩ (.slice a2 (i + 1) c2)).cell? ⟨gs, 1 + j, none⟩ = some (txV x)) := shut (fun j x hj => ks.cell (k7.cell (kd.cell (HXS.out j x hj) (fun h => h)) ns) (by intro e; have e2 : gs = g9 := e; omega))
      have R8 : RowR (w7.setCell ⟨g9, 1, none⟩ (.slice a2 (i + 1) c2)) 9 a2 c2 ((rest.take (i + 1)).map txV) := by
        have := R7.keeps ks (fun g hg e => by have := NX2 g hg; omega)
        have e8 : (rest.take (i + 1)).map txV = (rest.take i).map txV ++ [txV x] := by rw [List.take_add_one, HX.out, List.map_append]; rfl
        rw [e8]
        simpa only [List.map_take] using this
      have hsx2 : w5.heap.size ≤ (w7.setCell ⟨g9, 1, none⟩ (.slice a2 (i + 1) c2)).heap.size := by rw [World.size_setCell]; omega
      go_roundw
      case rel =>
        exact ⟨i + 1, a2, c2, by go_num, by omega, K8, hsx2, X2f, X9f, HXS2, R8, NX2, HA2⟩
      case measure => simp [intOf]; omega

end Go.Proofs.YtiliajnijjkcdaaDoor
