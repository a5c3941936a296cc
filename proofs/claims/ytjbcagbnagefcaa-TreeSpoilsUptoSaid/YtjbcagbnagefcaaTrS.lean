/- Package tree: which fields, structs, operands may be. Package tree: which rows of operands may be. -/
import Derived.Test.YtjbcagbnagefcaaTree9
namespace Go.Proofs.Ytjbcagbnagefcaa
open Go.RowKit

attribute [local go_sem ↓] exec_mid_ty exec_store_ty exec_mid_pl exec_store_pl exec_mid_opr exec_store_opr exec_mid_val exec_store_val exec_mid_st exec_store_st exec_mid_fld exec_store_fld exec_mid_str exec_store_str exec_mid_lif exec_store_lif exec_mid_fun exec_store_fun exec_mid_cr exec_store_cr
attribute [local go_sem] rowOk_new World.setRow_alloc_new

/-- Fields, or parameters, that may be. -/
def FldP (mt : Bool) (f : FldD) : Prop := (f.mu = true → mt = true) ∧ isName f.name = true ∧ TyP f.ty 1
def FldsP (l : List FldD) (mt : Bool) : Prop := (∀ f ∈ l, FldP mt f) ∧ l.length ≤ 64

set_option maxRecDepth 100000 in
set_option maxHeartbeats 4000000 in
theorem fields_any (w : World) (hM : MaxV w) {S : Nat → Prop} {ao : Option Addr} {l : List FldD} (c : Nat) (mt : Bool) (h : SlIs S w 6 (FldIs S w) ao l) : Calls Try.prog 46 #[.slice ao l.length c, .bool mt] w (Tells w (FldsP l mt)) := by
  have hl := h.1
  unfold bigN at hl
  have HX := shut h
  have HM := shut hM
  clear h hM
  obtain ⟨n, hn⟩ : ∃ n, l.length = n := ⟨_, rfl⟩
  rw [hn] at hl ⊢
  have HN := shut hn
  clear hn
  go_enter Try.func46, Try.ntmps46
  go_wp2_with fail
  go_loopw [6, 9] (fun s6 s9 wx => ∃ t : Nat, s9 = .int .i64 t ∧ t ≤ n ∧ Keeps Nothing w wx ∧ Shut (∀ f ∈ l.take t, FldP mt f)) (fun _ s9 _ => n - (intOf s9).toNat)
  case atStart => exact ⟨0, rfl, Nat.zero_le _, Keeps.refl _ _, shut (by simp)⟩
  case round =>
    obtain ⟨t, rfl, ht, KL, HT⟩ := hrel
    by_cases hlt : t < n
    · obtain ⟨d, hd⟩ : ∃ d, l[t]? = some d := ⟨_, List.getElem?_eq_getElem (by rw [HN.out]; exact hlt)⟩
      obtain ⟨g1, o1, rfl, -, cs, l1, r1, ha⟩ := (HX.out.keeps KL (fun _ _ h => h) (fun _ h => h) (fun _ _ _ h => h.keeps KL (fun _ _ h => h) (fun _ h => h))).get hd
      have HD := shut hd
      clear hd
      have m0 : (0 : Int) ≤ t := by omega
      have m1 : (t : Int) < n := by omega
      have ag1 := agg_ok l1 ha.one
      obtain ⟨CA, hCA⟩ : ∃ C, C = cs.toArray := ⟨_, rfl⟩
      obtain ⟨hk, ho⟩ := sub_of r1 l1
      rw [← hCA] at ag1 ho
      have HCA := shut hCA
      clear hCA r1
      go_upto_region 4 with fail
      have ka : Keeps Nothing wr (wr.alloc (.cells CA 50)) := (Keeps.refl Nothing wr).alloc _
      have BA := blk_new wr CA 50
      have KW := KL.trans ka (fun _ h _ => h)
      have ha := ha.keeps ka (fun _ _ h => h) (fun _ h => h)
      clear hk ho ag1 ka
      generalize wr.heap.size = ga at *
      generalize wr.alloc (.cells CA 50) = wb at *
      obtain ⟨a_mu, a_name, a_ty⟩ := d
      obtain ⟨s2, hcs, ah_name, ah_ty⟩ := ha
      rw [hcs] at HCA
      simp only at ah_name ah_ty HCA
      have GCA := HCA
      clear HCA hcs
      have al_ty := ah_ty.len
      have HP : Shut (FldP mt ⟨a_mu, a_name, a_ty⟩ ↔ (a_mu = true → mt = true) ∧ isName a_name = true ∧ TyP a_ty 1) := shut Iff.rfl
      obtain ⟨X, hX⟩ : ∃ X, X = (⟨a_mu, a_name, a_ty⟩ : FldD) := ⟨_, rfl⟩
      rw [← hX] at HP HD
      clear hX
      have hout : Shut (¬ FldP mt X → ¬ FldsP l mt) := shut (fun h h2 => h (h2.1 X (List.mem_of_getElem? HD.out)))
      have h1 := lname_any wb a_name (by unfold bigN at ah_name; omega)
      obtain ⟨z1, hz1⟩ : ∃ z, isName a_name = z := ⟨_, rfl⟩
      rw [hz1] at h1 HP
      clear hz1
      obtain ⟨ae0, ae1, -⟩ := FldB al_ty GCA.out BA
      unfold txV at *
      by_cases hmu : a_mu = true ∧ mt = false
      · obtain ⟨rfl, rfl⟩ := hmu
        have hno := shut (hout.out (fun h => by have h2 := (HP.out.1 h).1 rfl; cases h2))
        clear HP hout h1
        go_wp2_with fail
        go_ret
        exact tells_f hno.out KW
      have hmu2 : Shut (a_mu = true → mt = true) := shut (fun h => by cases mt with | true => rfl | false => exact absurd ⟨h, rfl⟩ hmu)
      have hcs : (a_mu = false) ∨ (a_mu = true ∧ mt = true) := by cases a_mu with | false => exact .inl rfl | true => exact .inr ⟨rfl, hmu2.out rfl⟩
      clear hmu
      have hM1 := HM.out.keeps KW
      rcases hcs with rfl | ⟨rfl, rfl⟩
      all_goals
        go_wp2_with fail
        refine h1.mono ?_
        rintro e w1 ⟨rfl, rfl⟩
        clear h1 ae0 ae1
        cases z1 with
        | false =>
          have hno := shut (hout.out (fun h => by have h2 := (HP.out.1 h).2.1; cases h2))
          clear HP hout hmu2
          go_wp2_with fail
          go_ret
          exact tells_f hno.out KW
        | true =>
          obtain ⟨-, -, ⟨ae2, af2⟩⟩ := FldB al_ty GCA.out BA
          have hc := kind_any a_ty w1 s2 1 hM1 (by omega) (by omega) ah_ty
          go_wp2_with fail
          refine hc.mono ?_
          rintro e w2 ⟨⟨z, rfl, hz⟩, k2⟩
          have KW := KW.trans k2 (fun _ h _ => h)
          have BA := k2.blk BA (fun h => h)
          clear hc k2 ae2 af2
          cases z with
          | false =>
            have hno := shut (hout.out (fun h => by have h2 := hz.2 (HP.out.1 h).2.2; cases h2))
            clear HP hout hz hmu2
            go_wp2_with fail
            go_ret
            exact tells_f hno.out KW
          | true =>
            have HT2 := shut (all_take HD.out HT.out (HP.out.2 ⟨hmu2.out, (by first | rfl | trivial), hz.1 rfl⟩))
            clear HP hout hz hmu2
            go_wp2_with fail
            go_roundw
            case rel => exact ⟨t + 1, by go_num, by omega, KW, HT2⟩
            case measure => simp [intOf]; omega
    · obtain rfl : t = n := by omega
      have m1 : ¬ (t : Int) < t := by omega
      have HALL := shut (all_of_take HN.out HT.out)
      by_cases h64 : t ≤ 64
      · have m2 : (t : Int) ≤ 64 := by omega
        go_wp2_with fail
        go_ret
        exact tells_t ⟨HALL.out, by rw [HN.out]; exact h64⟩ KL
      · have m2 : ¬ (t : Int) ≤ 64 := by omega
        have hno : Shut (¬ FldsP l mt) := shut (fun h => h64 (by rw [← HN.out]; exact h.2))
        clear HALL
        go_wp2_with fail
        go_ret
        exact tells_f hno.out KL

/-- A struct that may be. -/
def StrP (s : StrD) : Prop := isName s.name = true ∧ LivesP s.lives ∧ FldsP s.fields false

set_option maxRecDepth 100000 in
set_option maxHeartbeats 4000000 in
theorem strukt_any {S : Nat → Prop} (a : StrD) (w : World) (hM : MaxV w) (cs : List Value) (ha : StrIs S w a cs) : Calls Try.prog 25 #[.agg cs.toArray] w (Tells w (StrP a)) := by
  obtain ⟨a_pub, a_name, a_lives, a_fields, a_pos⟩ := a
  have HP : Shut (StrP ⟨a_pub, a_name, a_lives, a_fields, a_pos⟩ ↔ isName a_name = true ∧ LivesP a_lives ∧ FldsP a_fields false) := shut Iff.rfl
  obtain ⟨X, hX⟩ : ∃ X, X = StrP ⟨a_pub, a_name, a_lives, a_fields, a_pos⟩ := ⟨_, rfl⟩
  rw [← hX] at HP ⊢
  clear hX
  have HM := shut hM
  clear hM
  have ag1 := agg_ok ha.len ha.one
  obtain ⟨p2, q2, p3, q3, hcs, ah_name, ah_lives, ah_fields⟩ := ha
  have HCA := shut hcs
  clear hcs
  simp only at ah_name ah_lives ah_fields HCA
  obtain ⟨CA, hCA⟩ : ∃ C, C = cs.toArray := ⟨_, rfl⟩
  rw [← hCA] at ag1 ⊢
  rw [HCA.out] at hCA
  have GCA := shut hCA
  clear hCA HCA
  have KW : Keeps Nothing w (w.alloc (.cells CA 48)) := (Keeps.refl Nothing w).alloc _
  have BA := blk_new w CA 48
  go_enter Try.func25, Try.ntmps25
  go_upto_region 1 with fail
  clear ag1
  generalize w.heap.size = ga at *
  generalize w.alloc (.cells CA 48) = wb at *
  have h1 := lname_any wb a_name (by unfold bigN at ah_name; omega)
  obtain ⟨z1, hz1⟩ : ∃ z, isName a_name = z := ⟨_, rfl⟩
  rw [hz1] at h1 HP
  clear hz1
  obtain ⟨-, ae1, -, -, -⟩ := StrB  GCA.out BA
  unfold txV at *
  go_wp2_with fail
  refine h1.mono ?_
  rintro e w1 ⟨rfl, rfl⟩
  clear h1 ae1
  cases z1 with
  | false =>
    have hno : Shut (¬ X) := shut (fun h => by have h2 := (HP.out.1 h).1; cases h2)
    clear HP
    go_wp2_with fail
    go_ret
    exact tells_f hno.out KW
  | true =>
    obtain ⟨-, -, ae2, -, -⟩ := StrB  GCA.out BA
    have hc := lives_any w1 q2 (ah_lives.keeps KW (fun _ _ h => h) (fun _ h => h) (fun _ _ _ h => h))
    go_wp2_with fail
    refine hc.mono ?_
    rintro e w2 ⟨⟨z, rfl, hz⟩, k2⟩
    have KW := KW.trans k2 (fun _ h _ => h)
    have BA := k2.blk BA (fun h => h)
    clear hc k2 ae2
    cases z with
    | false =>
      have hno : Shut (¬ X) := shut (fun h => by have h2 := hz.2 (HP.out.1 h).2.1; cases h2)
      clear HP hz
      go_wp2_with fail
      go_ret
      exact tells_f hno.out KW
    | true =>
      have H1 := shut (hz.1 rfl)
      clear hz
      obtain ⟨-, -, -, ae3, -⟩ := StrB  GCA.out BA
      have hc := fields_any w2 (HM.out.keeps KW) q3 false (ah_fields.keeps KW (fun _ _ h => h) (fun _ h => h) (fun _ _ _ h => h.keeps KW (fun _ _ h => h) (fun _ h => h)))
      go_wp2_with fail
      refine hc.mono ?_
      rintro e w3 ⟨⟨z, rfl, hz⟩, k3⟩
      have KW := KW.trans k3 (fun _ h _ => h)
      have BA := k3.blk BA (fun h => h)
      clear hc k3 ae3
      have hz2 : Shut (z = true ↔ X) := shut (by rw [HP.out]; exact ⟨fun h => ⟨by first | rfl | trivial, H1.out, hz.1 h⟩, fun h => hz.2 h.2.2⟩)
      clear HP hz H1
      go_wp2_with fail
      go_ret
      exact tells_z hz2.out KW

def zeroPl : PlD := ⟨[], []⟩
theorem zeroPl_is (S : Nat → Prop) (w : World) : PlIs S w zeroPl [.string ⟨#[]⟩, .slice none 0 0] := ⟨none, 0, rfl, Nat.zero_le _, slIs_nil _ _ _ _ _⟩
/-- An operand that may be. -/
def OprP (o : OprD) : Prop := (o.kind = 1 ∧ o.place = zeroPl ∧ 0 ≤ o.n ∧ o.n ≤ 2147483647) ∨ (o.kind = 2 ∧ o.place = zeroPl ∧ (o.n = 0 ∨ o.n = 1)) ∨ (o.kind = 3 ∧ o.n = 0 ∧ PlP o.place)

set_option maxRecDepth 100000 in
set_option maxHeartbeats 4000000 in
theorem oper_any {S : Nat → Prop} (a : OprD) (w : World) (cs : List Value) (ha : OprIs S w a cs) : Calls Try.prog 96 #[.agg cs.toArray] w (Tells w (OprP a)) := by
  obtain ⟨a_kind, a_n, a_place⟩ := a
  have HP : Shut (OprP ⟨a_kind, a_n, a_place⟩ ↔ (a_kind = 1 ∧ a_place = zeroPl ∧ 0 ≤ a_n ∧ a_n ≤ 2147483647) ∨ (a_kind = 2 ∧ a_place = zeroPl ∧ (a_n = 0 ∨ a_n = 1)) ∨ (a_kind = 3 ∧ a_n = 0 ∧ PlP a_place)) := shut Iff.rfl
  obtain ⟨X, hX⟩ : ∃ X, X = OprP ⟨a_kind, a_n, a_place⟩ := ⟨_, rfl⟩
  rw [← hX] at HP ⊢
  clear hX
  have ag1 := agg_ok ha.len ha.one
  obtain ⟨s2, hcs, ah_place⟩ := ha
  have HCA := shut hcs
  clear hcs
  simp only at ah_place HCA
  obtain ⟨CA, hCA⟩ : ∃ C, C = cs.toArray := ⟨_, rfl⟩
  rw [← hCA] at ag1 ⊢
  rw [HCA.out] at hCA
  have GCA := shut hCA
  clear hCA HCA
  have al_place := ah_place.len
  have KW : Keeps Nothing w (w.alloc (.cells CA 41)) := (Keeps.refl Nothing w).alloc _
  have BA := blk_new w CA 41
  go_enter Try.func96, Try.ntmps96
  go_upto_region 1 with fail
  clear ag1
  generalize w.heap.size = ga at *
  generalize w.alloc (.cells CA 41) = wb at *
  obtain ⟨-, -, ⟨ae2, af2⟩⟩ := OprB al_place GCA.out BA
  have hc0 := samePlace_any a_place zeroPl wb s2 _ (ah_place.keeps KW (fun _ _ h => h) (fun _ h => h)) (zeroPl_is S wb)
  have hc : Calls Try.prog 83 #[.agg s2.toArray, .agg #[.string ⟨#[]⟩, .slice none 0 0]] wb (Tells wb (a_place = zeroPl)) := hc0
  clear hc0
  generalize hsp : s2.toArray = sp at *
  go_wp2_with fail
  refine hc.mono ?_
  rintro e w1 ⟨⟨zn, rfl, hzn⟩, k1⟩
  have KW := KW.trans k1 (fun _ h _ => h)
  have BA := k1.blk BA (fun h => h)
  clear hc k1 ae2 af2
  by_cases k1 : a_kind = 1
  · subst k1
    have HQ : Shut (X ↔ zn = true ∧ 0 ≤ a_n ∧ a_n ≤ 2147483647) := shut (by rw [HP.out, hzn]; simp)
    clear HP hzn
    obtain ⟨ae0, ae1, -⟩ := OprB al_place GCA.out BA
    cases zn with
    | false =>
      have hno : Shut (¬ X) := shut (fun h => by have h2 := (HQ.out.1 h).1; cases h2)
      clear HQ
      go_wp2_with fail
      go_ret
      exact tells_f hno.out KW
    | true =>
      by_cases h0 : 0 ≤ a_n
      · have hz : Shut (decide (a_n ≤ 2147483647) = true ↔ X) := shut (by rw [HQ.out, decide_eq_true_iff]; exact ⟨fun h => ⟨rfl, h0, h⟩, fun h => h.2.2⟩)
        clear HQ
        go_wp2_with fail
        go_ret
        exact tells_z hz.out KW
      · have hno : Shut (¬ X) := shut (fun h => h0 (HQ.out.1 h).2.1)
        clear HQ
        go_wp2_with fail
        go_ret
        exact tells_f hno.out KW
  by_cases k2 : a_kind = 2
  · subst k2
    have HQ : Shut (X ↔ zn = true ∧ (a_n = 0 ∨ a_n = 1)) := shut (by rw [HP.out, hzn]; simp)
    clear HP hzn
    obtain ⟨ae0, ae1, -⟩ := OprB al_place GCA.out BA
    cases zn with
    | false =>
      have hno : Shut (¬ X) := shut (fun h => by have h2 := (HQ.out.1 h).1; cases h2)
      clear HQ
      go_wp2_with fail
      go_ret
      exact tells_f hno.out KW
    | true =>
      by_cases h0 : a_n = 0
      · subst h0
        have hy : Shut X := shut (HQ.out.2 ⟨rfl, .inl rfl⟩)
        clear HQ
        go_wp2_with fail
        go_ret
        exact tells_t hy.out KW
      · by_cases h1 : a_n = 1
        · subst h1
          have hy : Shut X := shut (HQ.out.2 ⟨rfl, .inr rfl⟩)
          clear HQ
          go_wp2_with fail
          go_ret
          exact tells_t hy.out KW
        · have hno : Shut (¬ X) := shut (fun h => by rcases (HQ.out.1 h).2 with h2 | h2; exact h0 h2; exact h1 h2)
          have hb0 : (a_n == 0) = false := by rw [beq_eq_false_iff_ne]; exact h0
          have hb1 : (a_n == 1) = false := by rw [beq_eq_false_iff_ne]; exact h1
          clear HQ
          go_wp2_with fail
          go_ret
          exact tells_f hno.out KW
  by_cases k3 : a_kind = 3
  · subst k3
    have HQ : Shut (X ↔ a_n = 0 ∧ PlP a_place) := shut (by rw [HP.out]; simp)
    clear HP hzn
    obtain ⟨ae0, ae1, ⟨ae2, af2⟩⟩ := OprB al_place GCA.out BA
    rw [hsp] at af2
    by_cases h0 : a_n = 0
    · subst h0
      have hc := place_any a_place w1 s2 (ah_place.keeps KW (fun _ _ h => h) (fun _ h => h))
      rw [hsp] at hc
      go_wp2_with fail
      refine hc.mono ?_
      rintro e w2 ⟨⟨z, rfl, hz⟩, k2⟩
      have hz2 : Shut (z = true ↔ X) := shut (by rw [HQ.out, ← hz]; simp)
      clear hc hz HQ ae2 af2
      go_wp2_with fail
      go_ret
      exact tells_z hz2.out (KW.trans k2 (fun _ h _ => h))
    · have hno : Shut (¬ X) := shut (fun h => h0 (HQ.out.1 h).1)
      have hb0 : (a_n == 0) = false := by rw [beq_eq_false_iff_ne]; exact h0
      clear HQ
      go_wp2_with fail
      go_ret
      exact tells_f hno.out KW
  have hno : Shut (¬ X) := shut (fun h => by
    rcases HP.out.1 h with h2 | h2 | h2
    · exact k1 h2.1
    · exact k2 h2.1
    · exact k3 h2.1)
  clear HP hzn
  obtain ⟨ae0, -, -⟩ := OprB al_place GCA.out BA
  go_wp2_with fail
  go_ret
  exact tells_f hno.out KW

end Go.Proofs.Ytjbcagbnagefcaa

namespace Go.Proofs.Ytjbcagbnagefcaa
open Go.RowKit

attribute [local go_sem ↓] exec_mid_ty exec_store_ty exec_mid_pl exec_store_pl exec_mid_opr exec_store_opr exec_mid_val exec_store_val exec_mid_st exec_store_st exec_mid_fld exec_store_fld exec_mid_str exec_store_str exec_mid_lif exec_store_lif exec_mid_fun exec_store_fun exec_mid_cr exec_store_cr
attribute [local go_sem] rowOk_new World.setRow_alloc_new

theorem ent_oprs1 : Entered 104 := entered_of Try.func104 (by kernel_rfl) (by kernel_rfl)

set_option maxRecDepth 100000 in
set_option maxHeartbeats 4000000 in
theorem noper_any {S : Nat → Prop} (a : OprD) (w : World) (cs : List Value) (ha : OprIs S w a cs) : Calls Try.prog 104 #[.agg cs.toArray] w (Tells w (¬ OprP a)) := by
  have ag1 := agg_ok ha.len ha.one
  have hl : cs.toArray.size = 4 := by simpa using ha.len
  have KW : Keeps Nothing w (w.alloc (.cells cs.toArray 41)) := (Keeps.refl Nothing w).alloc _
  have BA := blk_new w cs.toArray 41
  have hb := ha.keeps KW (fun _ _ h => h) (fun _ h => h)
  have hc := oper_any a _ cs hb
  clear ha hb
  generalize cs.toArray = C at *
  go_enter Try.func104, Try.ntmps104
  go_upto_region 1 with fail
  generalize w.heap.size = ga at *
  generalize w.alloc (.cells C 41) = wb at *
  obtain ⟨y1, y2⟩ := tblk_mid BA hl
  go_wp2_with fail
  refine hc.mono ?_
  rintro e w1 ⟨⟨z, rfl, hz⟩, k1⟩
  have KW := KW.trans k1 (fun _ h _ => h)
  have HZ : Shut ((!z) = true ↔ ¬ OprP a) := shut (by rw [← hz]; cases z <;> simp)
  clear hc hz y1 y2
  go_wp2_with fail
  go_ret
  exact tells_z HZ.out KW

set_option maxRecDepth 100000 in
set_option maxHeartbeats 4000000 in
theorem index_opr (f : FuncId) (hcf : Entered f) {S : Nat → Prop} {l : List OprD} {p : OprD → Prop} (hf : ∀ a ∈ l, ∀ (W : World) (cs : List Value), OprIs S W a cs → Calls Try.prog f #[.agg cs.toArray] W (Tells W (p a)))
    (w : World) {ao : Option Addr} (c : Nat) (h : SlIs S w 4 (OprIs S w) ao l) :
    Calls Try.prog 109 #[.slice ao l.length c, .func (.func f) #[] #[]] w fun e w' => (∃ i : Int, e = .returned (.int .i64 i) ∧ (0 ≤ i ↔ ∃ a ∈ l, p a)) ∧ Keeps Nothing w w' := by
  have hlx := h.1
  unfold bigN at hlx
  have HX := shut h
  have HF := shut hf
  clear h hf
  obtain ⟨n, hn⟩ : ∃ n, l.length = n := ⟨_, rfl⟩
  rw [hn] at hlx ⊢
  have HN := shut hn
  clear hn
  go_enter Try.func109, Try.ntmps109
  go_wp2_with fail
  go_loopw [5, 8] (fun s5 s8 wx => ∃ t : Nat, s8 = .int .i64 t ∧ t ≤ n ∧ Keeps Nothing w wx ∧ Shut (∀ a ∈ l.take t, ¬ p a)) (fun _ s8 _ => n - (intOf s8).toNat)
  case atStart => exact ⟨0, rfl, Nat.zero_le _, Keeps.refl _ _, shut (by simp)⟩
  case round =>
    obtain ⟨t, rfl, ht, K, HT⟩ := hrel
    by_cases hlt : t < n
    · obtain ⟨a, ha⟩ : ∃ a, l[t]? = some a := ⟨_, List.getElem?_eq_getElem (by rw [HN.out]; exact hlt)⟩
      have HA := shut ha
      obtain ⟨g1, o1, rfl, -, cs, l1, r1, i1⟩ := (HX.out.keeps K (fun _ _ h => h) (fun _ h => h) (fun _ _ _ h => h.keeps K (fun _ _ h => h) (fun _ h => h))).get ha
      have ag1 := agg_ok l1 i1.one
      have hcm := List.mem_of_getElem? ha
      clear ha
      have m0 : (0 : Int) ≤ t := by omega
      have m1 : (t : Int) < n := by omega
      have hk := midOk_range r1
      have ho := midOf_range r1
      rw [l1] at hk ho
      obtain ⟨C, hC⟩ : ∃ C, C = cs.toArray := ⟨_, rfl⟩
      rw [← hC] at ag1 ho
      have hcall := HF.out a hcm wr cs i1
      rw [← hC] at hcall
      clear hC r1 i1
      have hcf2 := hcf #[.agg C] wr
      go_wp2_with fail
      clear hcf2
      refine hcall.mono ?_
      rintro e w3 ⟨⟨z, rfl, hzz⟩, k3⟩
      have KD := K.trans k3 (fun _ h _ => h)
      clear hcall K k3 hk ho ag1
      have HZ := shut hzz
      clear hzz
      cases z with
      | true =>
        have HY : Shut (∃ a ∈ l, p a) := shut ⟨a, hcm, HZ.out.1 rfl⟩
        clear HZ
        go_wp2_with fail
        go_ret
        exact ⟨⟨(t : Int), rfl, ⟨fun _ => HY.out, fun _ => m0⟩⟩, KD⟩
      | false =>
        have HT2 := shut (all_take (P := fun a => ¬ p a) HA.out HT.out (fun h => by have h2 := HZ.out.2 h; cases h2))
        clear HZ
        go_wp2_with fail
        go_roundw
        case rel => exact ⟨t + 1, by go_num, by omega, KD, HT2⟩
        case measure => simp [intOf]; omega
    · obtain rfl : t = n := by omega
      have m1 : ¬ (t : Int) < t := by omega
      have HALL := shut (all_of_take (P := fun a => ¬ p a) HN.out HT.out)
      go_wp2_with fail
      go_ret
      exact ⟨⟨-1, rfl, ⟨fun h => absurd h (by omega), fun ⟨a, h1, h2⟩ => absurd h2 (HALL.out a h1)⟩⟩, K⟩

set_option maxRecDepth 100000 in
set_option maxHeartbeats 4000000 in
theorem contains_opr (f : FuncId) (hcf : Entered f) {S : Nat → Prop} {l : List OprD} {p : OprD → Prop} (hf : ∀ a ∈ l, ∀ (W : World) (cs : List Value), OprIs S W a cs → Calls Try.prog f #[.agg cs.toArray] W (Tells W (p a)))
    (w : World) {ao : Option Addr} (c : Nat) (h : SlIs S w 4 (OprIs S w) ao l) :
    Calls Try.prog 103 #[.slice ao l.length c, .func (.func f) #[] #[]] w (Tells w (∃ a ∈ l, p a)) := by
  have hc := index_opr f hcf hf w c h
  clear h hf
  go_enter Try.func103, Try.ntmps103
  go_wp2_with fail
  refine hc.mono ?_
  rintro e w1 ⟨⟨i, rfl, hi⟩, k1⟩
  have HI : Shut (0 ≤ i ↔ ∃ a ∈ l, p a) := shut hi
  clear hc hi
  go_wp2_with fail
  go_ret
  exact tells_z (by rw [← HI.out, decide_eq_true_iff]) k1

/-- Rows of operands that may be. -/
def OprsP (l : List OprD) : Prop := (∀ o ∈ l, OprP o) ∧ l.length ≤ 64

set_option maxRecDepth 100000 in
set_option maxHeartbeats 4000000 in
theorem opers_any (w : World) {S : Nat → Prop} {ao : Option Addr} {l : List OprD} (c : Nat) (h : SlIs S w 4 (OprIs S w) ao l) : Calls Try.prog 100 #[.slice ao l.length c] w (Tells w (OprsP l)) := by
  have hl := h.1
  unfold bigN at hl
  have hc := contains_opr 104 ent_oprs1 (fun a _ W cs hw => noper_any a W cs hw) w c h
  have HP : Shut (OprsP l ↔ (¬ ∃ a ∈ l, ¬ OprP a) ∧ l.length ≤ 64) := shut (by
    unfold OprsP
    exact ⟨fun h => ⟨fun ⟨a, h1, h2⟩ => h2 (h.1 a h1), h.2⟩, fun h => ⟨fun a h1 => Classical.byContradiction (fun h2 => h.1 ⟨a, h1, h2⟩), h.2⟩⟩)
  obtain ⟨X, hX⟩ : ∃ X, X = OprsP l := ⟨_, rfl⟩
  rw [← hX] at HP ⊢
  clear hX h
  obtain ⟨n, hn⟩ : ∃ n, l.length = n := ⟨_, rfl⟩
  rw [hn] at hl hc HP ⊢
  clear hn
  go_enter Try.func100, Try.ntmps100
  by_cases h64 : n ≤ 64
  · have m1 : (n : Int) ≤ 64 := by omega
    go_wp2_with fail
    refine hc.mono ?_
    rintro e w1 ⟨⟨z, rfl, hz⟩, k1⟩
    have HZ : Shut ((!z) = true ↔ X) := shut (by rw [HP.out, ← hz]; cases z <;> simp [h64])
    clear hc hz HP
    go_wp2_with fail
    go_ret
    exact tells_z HZ.out k1
  · have m1 : ¬ (n : Int) ≤ 64 := by omega
    have hno : Shut (¬ X) := shut (fun h => h64 (HP.out.1 h).2)
    clear hc HP
    go_wp2_with fail
    go_ret
    exact tells_f hno.out (Keeps.refl _ _)

end Go.Proofs.Ytjbcagbnagefcaa
