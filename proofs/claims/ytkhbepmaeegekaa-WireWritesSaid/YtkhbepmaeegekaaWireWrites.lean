/- usufructlaw2.WireWrites: for any list of things the law returns true; no condition. -/
import Derived.Test.YtkhbepmaeegekaaRows
import Derived.Test.YtkhbepmaeegekaaBackP2
import Derived.ProofKit
import Derived.OpenShut
import Derived.ShutString
import Derived.ChangeOld
import Derived.Below
namespace Go.Proofs.Ytkhbepmaeegekaa.wireWrites
open Go.ChangeShapes Go.WideShapes Go.ChangeAt Go.RowKit
open Go.ChangeMaps (open_string shut_string)

theorem own : ownKnob Try.prog.godebug = none := by kernel_rfl
theorem laidOut : laidOutB Try.prog = true := by kernel_rfl


theorem cat_eq (a b : List UInt8) : Value.string (⟨a.toArray⟩ ++ ⟨b.toArray⟩) = .string ⟨(a ++ b).toArray⟩ := by
  rw [ByteArray.mk_append_mk]


attribute [local go_sem ↓] exec_mid_op

set_option maxRecDepth 100000 in
set_option maxHeartbeats 1000000 in
theorem walk (w : World) (ao : Option Addr) (n c : Nat) (ops : List OpD) (hn : ops.length = n) (hO : OpsAt w ao ops) (hmax : n ≤ maxLen) :
    Calls Try.prog 7 #[.slice ao n c] w (SaysTrue w) := by
  have HN := Lib.hid hn
  have hn9 : n < 9223372036854775808 := by unfold maxLen at hmax; omega
  clear hn hmax
  go_enter Try.func7, Try.ntmps7
  go_wp2_with fail
  refine (newWriter_any w).mono ?_
  rintro e w0 ⟨rfl, hw0⟩
  have W0 : WrNew w w0 w.heap.size none 0 [] := hw0 ▸ wrNew_new w
  clear hw0
  generalize hp : w.heap.size = p at *
  have HP := Lib.hid hp
  clear hp
  go_wp2_with fail
  go_loopw [4, 5] (fun t s wr => ∃ (i : Nat) (ao1 : Option Addr) (cap1 : Nat) (E : List UInt8), t = .string ⟨E.toArray⟩ ∧ s = .int .i64 i ∧ i ≤ n ∧ i ≤ 30 ∧ E.length ≤ 510 * i ∧ WrNew w wr p ao1 cap1 E) (fun _ s _ => (30 - intOf s).toNat)
  case atStart => exact ⟨0, none, 0, [], rfl, rfl, Nat.zero_le _, Nat.zero_le _, Nat.zero_le _, W0⟩
  case round =>
    obtain ⟨i, ao1, cap1, E, rfl, rfl, hi, h30, hE, W1⟩ := hrel
    by_cases hb : i < n ∧ i < 30
    · obtain ⟨hlt, hlt30⟩ := hb
      obtain ⟨o, ho⟩ : ∃ o, ops[i]? = some o := ⟨_, List.getElem?_eq_getElem (by have := HN.out; omega)⟩
      obtain ⟨b, off, rfl, hf, hr⟩ := ops_head hO ho
      clear ho
      have hbx := opBox hf (rangeAt_keeps hr W1.keep (fun h => h))
      generalize hC : (opCells o).toArray = C at *
      have HC := Lib.hid hC
      clear hC
      obtain ⟨hz, b1, b2, b3, b4, b0, c1, c2, c3, c4, c5⟩ := hbx
      clear hz
      by_cases hS : 500 < o.s.size
      · go_wp2_with fail
        refine (told_true wr).mono ?_
        rintro e w1 ⟨rfl, k1⟩
        go_wp2_with fail
        go_ret
        exact ⟨rfl, W1.keep.trans k1 (fun _ h _ => h)⟩
      · have hw := write_any W1.wr o hf (by omega) (by omega)
        rw [HC.out] at hw
        go_wp2_with fail
        refine hw.mono ?_
        clear hw
        rintro e w1 ⟨rfl, ao2, cap2, h1, k1, m1⟩
        have W2 := W1.step h1 k1 m1
        have hel := encOp_len o hf (by omega)
        generalize hX : encOp o = X at *
        clear hX
        go_wp2_with fail
        go_roundw
        case rel => exact ⟨i + 1, ao2, cap2, E ++ X, cat_eq E X, by go_num, by omega, by omega, by rw [List.length_append]; omega, W2⟩
        case measure => simp [intOf]; omega
    · have hE2 : E.length ≤ 15300 := by omega
      have hcase : ¬ i < n ∨ (i < n ∧ ¬ i < 30) := by omega
      clear hb hE
      rcases hcase with hx | ⟨hx, hy⟩
      all_goals
        go_wp2_with fail
        refine (bytes_any W1.wr (by omega)).mono ?_
        rintro e w2 ⟨ao2, cap2, rfl, o2, K2, hn2⟩
        have W2 := W1.keeps K2 (fun h => h) (fun _ _ h => h) (fun _ h => h.elim)
        have hl1 := W1.wr.lt
        have hb1 := W1.keep.size
        clear W1
        have hconv := run_str w2 cap2 E (l := E.length) rfl (own8_at o2)
        go_wp2_with (at_builtin; refine wpList_app8 _ rfl (.tmp 43) (.tmp 44) 29 rfl ao2 cap2 E rfl (World.ownsRow.alloc o2 _) _ rfl [7] (src_new _ _ ?c1) ?c2 ?c3 ?_)
        case c1 => rfl
        case c2 => omega
        case c3 => simp
        intro ao3 cap3 w3 o3 k3 m3
        obtain ⟨g, rfl⟩ := own8_head o3 (by simp)
        have hc3 := (own8_cap o3).1
        have hc9 := (own8_cap o3).2
        have hg3 := m3.new (B := wr.heap.size) (by have := K2.size; simp; omega) hn2 g rfl
        rw [List.length_append, List.length_singleton] at hc3
        have K3 : Keeps Nothing w w3 := (W2.keep.alloc _).trans k3 (fun i h hlt => by have := hn2 i h; omega)
        have Wp3 : Wr w3 p ao1 cap1 E := ⟨k3.blk (blk_alloc W2.wr.blk _) (fun h => by have := hn2 _ h; omega), k3.own (World.ownsRow.alloc W2.wr.own _) (fun x hx h => by rw [ownBlock_eq] at hx; have := hl1.2 x hx; have := hn2 _ h; omega)⟩
        clear o2 k3 m3 K2 hn2 W2 hconv
        have hlt1 := hl1.1
        have HL := Lib.hid hl1.2
        clear hl1
        go_wp2_with fail

        go_loopw [7] (fun s wx => ∃ (j : Nat) (bs : List UInt8), s = .int .i64 j ∧ j ≤ E.length ∧ Hid (bs.length = E.length + 1) ∧ Own8 wx 5 (some ⟨g, 0, none⟩) cap3 bs ∧ Keeps Nothing w wx ∧ Wr wx p ao1 cap1 E) (fun s _ => E.length - (intOf s).toNat)
        case atStart => exact ⟨0, E ++ [7], rfl, Nat.zero_le _, Lib.hid (by simp), o3, K3, Wp3⟩
        case round =>
          clear o3 K3 Wp3
          obtain ⟨j, bs, rfl, hj, HB, o3, K3, Wp3⟩ := hrel
          by_cases hlt : j < E.length
          · obtain ⟨⟨v, hc⟩, hf, o4, k4⟩ := own8_store o3 (j := j) (by rw [HB.out]; omega) 99
            have K4 := K3.trans k4 (fun i h hlt => by subst h; omega)
            have Wp4 : Wr _ p ao1 cap1 E := ⟨k4.blk Wp3.blk (fun h => by omega), k4.own Wp3.own (fun x hx h => by rw [ownBlock_eq] at hx; have := HL.out x hx; omega)⟩
            clear k4
            go_wp2_with fail
            go_roundw
            case rel => exact ⟨j + 1, _, by go_num, by omega, Lib.hid (by rw [List.length_set]; exact HB.out), o4, K4, Wp4⟩
            case measure => simp [intOf]; omega
          · have hje : j = E.length := by omega
            subst hje
            go_wp2_with fail
            refine (told_true _).mono ?_
            rintro e w4 ⟨rfl, k4⟩
            have Wp4 : Wr w4 p ao1 cap1 E := ⟨k4.blk Wp3.blk (fun h => h), k4.own Wp3.own (fun _ _ h => h)⟩
            go_wp2_with fail
            refine (bytes_any Wp4 (by omega)).mono ?_
            rintro e w5 ⟨ao5, cap5, rfl, o5, K5, _⟩
            have hconv := run_str w5 cap5 E (l := E.length) rfl (own8_at o5)
            go_wp2_with fail
            go_ret
            exact ⟨rfl, (K3.trans k4 (fun _ h _ => h)).trans K5 (fun _ h _ => h)⟩
set_option maxRecDepth 100000 in
theorem lifted (os : Os) (started : os.Started) (H : Type) (enc : TypeId × Value → H) :
    ReturnsInHanded {} Try.checked os 7 .any (Rows.wireWritesSpec.pre6 enc Try.prog Try.f7 Rows.wireWritesRow.domain false) (Rows.wireWritesSpec.post enc Try.prog Try.f7 false true false false) := by
  refine returnsInHanded_of_change (C := Try.checked) own started (by kernel_rfl) Try.func7
    (ChangeSpec.witness6 (enc := enc) (C := Try.checked) false ⟨#[], #[.slice none 0 0], []⟩ 8 (by kernel_rfl) (by kernel_rfl) (by kernel_rfl) (by kernel_rfl)) ?_
  intro W base args ds gs before hval0 hW hcnd _
  have hval : ∀ (j : Nat) t v, Try.f7.params[j]? = some t → args[j]? = some v → Value.okWide Try.prog W .any base t v := hval0
  have hW' := hW
  obtain ⟨p, q, hA0, hV, rfl, hfz, hnd⟩ := hW
  have hA : DataW.TrodAll enc Try.prog W 0 (fun _ => true) true Try.f7.params.toList args.toList ds p := hA0
  rw [Try.params7] at hA hval
  obtain ⟨v0, vs0, d0, ds0, p0, q0, hargs, rfl, rfl, h0, r0⟩ := trodAll_cons hA
  obtain ⟨rfl, rfl, rfl⟩ := trodAll_nil r0
  obtain rfl : args = #[v0] := by cases args; simp_all
  obtain ⟨rfl, rfl⟩ := trodVars_none hV
  have k0 := h0
  have lt0 : ∀ x ∈ p0, x.block < W.heap.size := by obtain ⟨m, hm⟩ := k0; exact DataW.trod_lt m _ _ _ hm
  obtain ⟨ao, len, cap, rfl⟩ := okWide_slice Try.underlying57 (hval 0 57 v0 rfl rfl)
  obtain ⟨fuel, hf⟩ := h0
  obtain ⟨ops, hn, hO, hlc, hcm, _⟩ := open_ops rfl hf
  clear hA0 hval0
  refine (walk W ao len cap ops hn hO (Nat.le_trans hlc hcm)).mono fun e W' ⟨he, hk⟩ => ?_
  subst he
  have bel : Below W.heap.size W W' := hk.below (Nat.le_refl _) (fun _ h => h.elim)
  exact ⟨_, rfl, _, _, _, [], _, [], hW', trodAll_mk1 (shut_bool Try.underlying4 _), (trodAll_cons_mk (Below.trod laidOut (by kernel_rfl) (of_decide_eq_true (by kernel_rfl)) k0 bel lt0) trodAll_mk0), rfl, bel.frame _, fun h => by cases h⟩

/-- For every input the law returns true, and its arguments read as before. -/
theorem proved : Rows.WireWritesSaid :=
  OpenClaim.holds_of_wide 7 Try.f7 rfl rfl rfl rfl rfl rfl rfl ⟨rfl, rfl, rfl, rfl, rfl⟩ rfl rfl rfl rfl rfl (by kernel_rfl) Try.func7 (by kernel_rfl)
    (of_decide_eq_true (by kernel_rfl)) (by unfold Func.isWrapper; first | (rw [if_pos (by decide +kernel)]; kernel_rfl) | (rw [if_neg (by decide +kernel)]; exact ⟨rfl, rfl⟩))
    (fun os started H enc _ => lifted os started H enc)
#print axioms proved

end Go.Proofs.Ytkhbepmaeegekaa.wireWrites
