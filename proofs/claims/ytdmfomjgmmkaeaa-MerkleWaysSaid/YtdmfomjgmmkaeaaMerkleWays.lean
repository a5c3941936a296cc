/- usufructlaw5.MerkleWays: for any number the law returns true; no condition. -/
import Derived.Test.YtdmfomjgmmkaeaaRows
import Derived.Test.YtdmfomjgmmkaeaaMerk14
import Derived.ProofKit
import Derived.OpenShut
import Derived.ShutString
import Derived.ChangeOld
import Derived.Below
namespace Go.Proofs.Ytdmfomjgmmkaeaa.merkleWays
open Go.ChangeShapes Go.WideShapes Go.ChangeAt Go.RowKit
open Go.ChangeMaps (open_string shut_string)

theorem own : ownKnob Try.prog.godebug = none := by kernel_rfl
theorem laidOut : laidOutB Try.prog = true := by kernel_rfl


/-! ### how long a way is -/
def waysB : Bool := (List.range 41).all fun k => (List.range 8).all fun h => !(decide (k ≤ 2 ^ h) && (decide (h = 0) || decide (2 ^ (h - 1) < k))) || (List.range k).all fun i => decide (pathLen k i ≤ h) && ((!decide (k = 2 ^ h) || decide (pathLen k i = h)) && (!decide (1 < k) || decide (1 ≤ pathLen k i)))
theorem ways_ok : waysB = true := by decide +kernel
theorem ways_all (k : Nat) (hk : k < 41) (h : Nat) (hh : h < 8) (h1 : k ≤ 2 ^ h) (h2 : h = 0 ∨ 2 ^ (h - 1) < k) (i : Nat) (hi : i < k) : pathLen k i ≤ h ∧ (k = 2 ^ h → pathLen k i = h) ∧ (1 < k → 1 ≤ pathLen k i) := by
  have a := List.all_eq_true.1 ways_ok k (List.mem_range.2 hk)
  have b := List.all_eq_true.1 a h (List.mem_range.2 hh)
  rw [Bool.or_eq_true] at b
  rcases b with b | b
  · simp only [Bool.not_eq_true', Bool.and_eq_false_iff, decide_eq_false_iff_not, Bool.or_eq_false_iff] at b
    rcases b with b | ⟨b1, b2⟩
    · exact absurd h1 b
    · exact (h2.elim (fun e => absurd e b1) (fun e => absurd e b2))
  · have c := List.all_eq_true.1 b i (List.mem_range.2 hi)
    simp only [Bool.and_eq_true, Bool.or_eq_true, Bool.not_eq_true', decide_eq_true_eq, decide_eq_false_iff_not] at c
    exact ⟨c.1, fun e => c.2.1.resolve_left (fun q => q e), fun e => c.2.2.resolve_left (fun q => q e)⟩

def rowsW (k : Nat) : List (List UInt8) := (List.range k).map fun i => [UInt8.ofNat i]
theorem rowsW_len (k : Nat) : (rowsW k).length = k := by unfold rowsW; simp
theorem rowsW_succ (k : Nat) : rowsW (k + 1) = rowsW k ++ [[UInt8.ofNat k]] := by unfold rowsW; rw [List.range_succ, List.map_append]; rfl
theorem ownS_rows {w : World} {ao : Option Addr} {cap : Nat} {rows : List (List UInt8)} {vs : List Value} (h : OwnS w ao cap rows vs) : RowsAt w ao rows := by
  rcases h.own.2 with ⟨hv, hn⟩ | ⟨g, cap', cur, hv, _⟩
  · simp only [Value.slice.injEq] at hv
    obtain ⟨rfl, _, _⟩ := hv
    have : rows = [] := List.eq_nil_of_length_eq_zero hn
    subst this
    exact ⟨fun _ => rfl, fun a e => by cases e⟩
  · simp only [Value.slice.injEq] at hv
    obtain ⟨rfl, _, rfl⟩ := hv
    refine ⟨fun e => (by cases e), fun a e j l hl => ?_⟩
    obtain rfl := Option.some.inj e
    obtain ⟨al, cl, h1, h2⟩ := h.each j l hl
    have hc := World.ownsRow.cells h.own (g := g) rfl j _ h1
    obtain ⟨c1, c2⟩ := own8_cap h2
    exact ⟨rfl, al, cl, hc, own8_at h2, c1, by unfold maxLen; omega⟩
theorem ownS_cap {w : World} {ao : Option Addr} {cap : Nat} {rows : List (List UInt8)} {vs : List Value} (h : OwnS w ao cap rows vs) : rows.length ≤ cap ∧ cap ≤ maxLen := by
  rcases h.own.2 with ⟨hv, hn⟩ | ⟨g, cap', cur, hv, _, _, h1, h2, _⟩
  · simp only [Value.slice.injEq] at hv
    obtain ⟨_, _, rfl⟩ := hv
    exact ⟨by omega, Nat.zero_le _⟩
  · simp only [Value.slice.injEq] at hv
    obtain ⟨_, _, rfl⟩ := hv
    exact ⟨h1, h2⟩

def pw (h : Nat) : Int := wrap64 ((2 : Int) ^ h)
theorem pw_eq (h : Nat) : wrap64 ((2 : Int) ^ h) = pw h := rfl
theorem pw_val {h : Nat} (hh : h ≤ 7) : pw h = ((2 ^ h : Nat) : Int) := by
  have : 2 ^ h ≤ 128 := Nat.pow_le_pow_right (by decide) hh (n := 2)
  unfold pw
  rw [show (2 : Int) ^ h = ((2 ^ h : Nat) : Int) from by simp]
  generalize 2 ^ h = q at *
  unfold wrap64
  omega
attribute [irreducible] pw

attribute [local go_sem ↓] exec_mid_hash exec_load_hash exec_store_hash exec_store_proof
attribute [local go_sem] rowOk_new World.setRow_alloc_new aggOk_proof pw_eq

set_option maxRecDepth 100000 in
set_option maxHeartbeats 4000000 in
theorem walk (w : World) (n : Int) : Calls Try.prog 9 #[.int .i64 n] w (SaysTrue w) := by
  obtain ⟨m, hm, hm9⟩ : ∃ m : Nat, IntKind.u64.wrap n = (m : Int) ∧ m < 18446744073709551616 := ⟨(n % 18446744073709551616).toNat, by rw [IntKind.wrap_u64]; omega, by omega⟩
  obtain ⟨r, hr⟩ : ∃ r, m % 40 = r := ⟨_, rfl⟩
  have hr40 : r < 40 := by omega
  have e1 : (m : Int).tmod 40 = (r : Int) := by rw [Int.tmod_eq_emod_of_nonneg (by omega)]; omega
  obtain ⟨k, hk⟩ : ∃ k, 1 + r = k := ⟨_, rfl⟩
  have e2 : (1 : Int) + (r : Int) = (k : Int) := by omega
  have hk1 : 1 ≤ k := by omega
  have hk40 : k ≤ 40 := by omega
  clear hr hk
  go_enter Try.func9, Try.ntmps9
  go_wp2_with fail
  clear hm hm9 e1 e2 hr40
  go_loopw [4, 5] (fun s4 s5 wx => ∃ (i : Nat) (ao : Option Addr) (cap : Nat) (vs : List Value), s4 = .slice ao i cap ∧ s5 = .int .i64 i ∧ i ≤ k ∧ OwnS wx ao cap (rowsW i) vs ∧ Keeps Nothing w wx ∧ Shut (∀ g, blockOf ao = some g → w.heap.size ≤ g)) (fun _ s5 _ => k - (intOf s5).toNat)
  case atStart => exact ⟨0, none, 0, [], rfl, rfl, Nat.zero_le _, ownS_nil w, Keeps.refl _ _, shut (fun g hg => by simp [blockOf] at hg)⟩
  case round =>
    obtain ⟨i, ao, cap, vs, rfl, rfl, hi, O, K, HF⟩ := hrel
    by_cases hlt : i < k
    · have m1 : (i : Int) < k := by omega
      have hbv : Value.int .u8 (i : Int) = byteV (UInt8.ofNat i) := byteV_nat (by omega)
      have u8w : IntKind.u8.wrap (i : Int) = (i : Int) := by show (i : Int) % 256 = i; omega
      have o1 : Own8 (wr.alloc (.cells #[.int .u8 (i : Int)] 5)) 5 (some ⟨wr.heap.size, 0, none⟩) 1 [UInt8.ofNat i] := own8_one wr _ hbv
      have O2 := (O.keepsN ((Keeps.refl _ _).alloc (.cells #[.int .u8 (i : Int)] 5))).keepsN ((Keeps.refl _ _).alloc (.cells #[.slice (some ⟨wr.heap.size, 0, none⟩) 1 1] 22))
      have o2 : Own8 ((wr.alloc (.cells #[.int .u8 (i : Int)] 5)).alloc (.cells #[.slice (some ⟨wr.heap.size, 0, none⟩) 1 1] 22)) 5 (some ⟨wr.heap.size, 0, none⟩) 1 [UInt8.ofNat i] := World.ownsRow.alloc o1 _
      have D2 : Blk ((wr.alloc (.cells #[.int .u8 (i : Int)] 5)).alloc (.cells #[.slice (some ⟨wr.heap.size, 0, none⟩) 1 1] 22)) (wr.heap.size + 1) #[.slice (some ⟨wr.heap.size, 0, none⟩) 1 1] 22 := by
        have := blk_new (wr.alloc (.cells #[.int .u8 (i : Int)] 5)) #[.slice (some ⟨wr.heap.size, 0, none⟩) 1 1] 22
        rw [World.size_alloc] at this
        exact this
      clear hbv
      go_wp2_with (at_builtin; refine wpList_appS _ rfl (.tmp 24) (.tmp 28) rfl ao cap (rowsW i) vs i (rowsW_len i) rfl O2 (wr.heap.size + 1) [UInt8.ofNat i] _ 1 rfl rfl D2 o2 (by omega) ?_)
      intro a5 c5 w5 o5 k5 m5
      have K5 : Keeps Nothing w w5 := ((K.alloc _).alloc _).trans k5 (fun i hi hlt => by have := HF.out i hi; omega)
      have HF5 := shut (m5.new (B := w.heap.size) (by have := K.size; first | omega | (simp only [World.size_alloc]; omega)) HF.out)
      rw [← rowsW_succ] at o5
      clear O K HF o1 O2 o2 D2 k5 m5
      go_wp2_with fail
      go_roundw
      case rel => exact ⟨i + 1, a5, c5, _, rfl, by go_num, by omega, o5, K5, HF5⟩
      case measure => simp [intOf]; omega
    · obtain rfl : i = k := by omega
      have m1 : ¬ (i : Int) < i := by omega
      have hR := ownS_rows O
      obtain ⟨hc, hcm⟩ := ownS_cap O
      rw [rowsW_len] at hc
      have hb : ∀ r ∈ rowsW i, r.length ≤ 1000 := fun r hr => by unfold rowsW at hr; simp at hr; obtain ⟨_, _, rfl⟩ := hr; simp
      have HR := shut hR
      clear O HF hR
      go_wp2_with fail
      obtain ⟨w7, rfl⟩ : ∃ w7, w7 = wr := ⟨_, rfl⟩
      go_loopw [6] (fun s6 wx => ∃ h : Nat, s6 = .int .i64 h ∧ h ≤ 7 ∧ Shut (h = 0 ∨ 2 ^ (h - 1) < i) ∧ wx = w7) (fun s6 _ => 7 - (intOf s6).toNat)
      case atStart => exact ⟨0, rfl, by omega, shut (.inl rfl), rfl⟩
      case round =>
        obtain ⟨h, rfl, hh, HH, hww⟩ := hrel
        subst wr
        obtain ⟨p, hp⟩ : ∃ p, 2 ^ h = p := ⟨_, rfl⟩
        have hp9 : p ≤ 128 := by rw [← hp]; exact Nat.pow_le_pow_right (by decide) hh (n := 2)
        have huh : IntKind.u64.wrap (h : Int) = (h : Int) := by rw [IntKind.wrap_u64]; omega
        have hw : pw h = (p : Int) := by rw [pw_val hh, hp]
        have HP := shut hp
        clear hp
        by_cases hpi : p < i
        · have hx : (p : Int) < (i : Int) := Int.ofNat_lt.2 hpi
          go_wp2_with fail
          clear huh hw hx
          have hh6 : h ≤ 6 := by
            rcases Nat.lt_or_ge h 7 with q | q
            · omega
            · have h7 : h = 7 := by omega
              have := HP.out
              rw [h7] at this
              have e7 : (2 : Nat) ^ 7 = 128 := rfl
              omega
          have HH2 : Shut (h + 1 = 0 ∨ 2 ^ (h + 1 - 1) < i) := shut (.inr (by rw [Nat.add_sub_cancel, HP.out]; exact hpi))
          go_roundw
          case rel => exact ⟨h + 1, by go_num, by omega, HH2, by first | rfl | trivial⟩
          case measure => simp [intOf]; omega
        · have hx : ¬ (p : Int) < (i : Int) := fun q => hpi (Int.ofNat_lt.1 q)
          go_wp2_with fail
          clear huh hx
          have hways := fun t (ht : t < i) => ways_all i (by omega) h (by omega) (by rw [HP.out]; omega) HH.out t ht
          rw [HP.out] at hways
          have HWY := shut hways
          clear hways HH
          go_loopw [7] (fun s7 wx => ∃ t : Nat, s7 = .int .i64 t ∧ t ≤ i ∧ Keeps Nothing w7 wx) (fun s7 _ => i - (intOf s7).toNat)
          case atStart => exact ⟨0, rfl, Nat.zero_le _, Keeps.refl _ _⟩
          case round =>
            obtain ⟨t, rfl, ht, KT⟩ := hrel
            by_cases htl : t < i
            · have t1 : (t : Int) < i := by omega
              obtain ⟨y1, y2, y3⟩ := HWY.out t htl
              go_wp2_with fail
              refine (prove_any (w := wr) (c := cap) (rowsW_len i) (by omega) hc hcm (HR.out.keepsN KT) hb (t : Int)).mono ?_
              rintro e w9 ⟨hp, _⟩
              obtain ⟨ao9, cap9, rfl, _, k9, _⟩ := hp ⟨by omega, by rw [rowsW_len]; omega⟩
              rw [Int.toNat_natCast, pathL_length, rowsW_len]
              obtain ⟨L, hL⟩ : ∃ L, pathLen i t = L := ⟨_, rfl⟩
              rw [hL] at y1 y2 y3 ⊢
              unfold proofV
              have K9 := (KT.trans k9 (fun _ h _ => h)).alloc (.cells #[.int .i64 (t : Int), .int .i64 (i : Int), .slice ao9 L cap9] 46)
              have B9 := blk_new w9 #[.int .i64 (t : Int), .int .i64 (i : Int), .slice ao9 L cap9] 46
              have q2 := blk_cell B9 2 (show (#[.int .i64 (t : Int), .int .i64 (i : Int), .slice ao9 L cap9] : Array Value)[2]? = some (.slice ao9 L cap9) from rfl)
              have z1 : ¬ (h : Int) < (L : Int) := by omega
              have zz1 : decide ((h : Int) < (L : Int)) = false := decide_eq_false z1
              clear hp k9 B9
              by_cases hip : i = p
              · subst hip
                obtain rfl : L = h := y2 rfl
                by_cases hi1 : 1 < i
                · have x1 : (1 : Int) < i := Int.ofNat_lt.2 hi1
                  have x2 : ¬ (L : Int) < 1 := fun q => absurd (y3 hi1) (by omega)
                  have x3 : decide ((L : Int) < 1) = false := decide_eq_false x2
                  go_wp2_with fail
                  go_roundw
                  case rel => exact ⟨t + 1, by go_num, by omega, K9⟩
                  case measure => simp [intOf]; omega
                · have x1 : ¬ (1 : Int) < i := fun q => hi1 (Int.ofNat_lt.1 q)
                  have x3 : decide ((1 : Int) < i) = false := decide_eq_false x1
                  go_wp2_with fail
                  go_roundw
                  case rel => exact ⟨t + 1, by go_num, by omega, K9⟩
                  case measure => simp [intOf]; omega
              · have z2 : ((i : Int) == (p : Int)) = false := by rw [beq_eq_false_iff_ne]; omega
                by_cases hi1 : 1 < i
                · have x1 : (1 : Int) < i := by omega
                  have x2 : ¬ (L : Int) < 1 := by have := y3 hi1; omega
                  have x3 : decide ((L : Int) < 1) = false := decide_eq_false x2
                  go_wp2_with fail
                  go_roundw
                  case rel => exact ⟨t + 1, by go_num, by omega, K9⟩
                  case measure => simp [intOf]; omega
                · have x1 : ¬ (1 : Int) < i := by omega
                  have x3 : decide ((1 : Int) < i) = false := decide_eq_false x1
                  go_wp2_with fail
                  go_roundw
                  case rel => exact ⟨t + 1, by go_num, by omega, K9⟩
                  case measure => simp [intOf]; omega
            · obtain rfl : t = i := by omega
              have t1 : ¬ (t : Int) < t := by omega
              go_wp2_with fail
              refine (prove_any (w := wr) (c := cap) (rowsW_len t) (by omega) hc hcm (HR.out.keepsN KT) hb (t : Int)).mono ?_
              rintro e w9 ⟨_, hp⟩
              obtain ⟨ev1, rfl, hev1, k9⟩ := hp (by rw [rowsW_len]; omega)
              rw [show proofV 0 0 none 0 0 = .agg #[.int .i64 0, .int .i64 0, .slice none 0 0] from rfl]
              clear hp
              go_wp2_with fail
              have kk9 := k9.alloc (.cells #[.int .i64 0, .int .i64 0, .slice none 0 0] 46)
              have K9 := KT.trans kk9 (fun _ h _ => h)
              have hev9 := hev1.keeps ((Keeps.refl Nothing w9).alloc (.cells #[.int .i64 0, .int .i64 0, .slice none 0 0] 46)) (fun _ h => h.elim)
              clear KT k9 kk9 hev1
              generalize w9.alloc (.cells #[.int .i64 0, .int .i64 0, .slice none 0 0] 46) = w10 at *
              refine (prove_any (w := w10) (c := cap) (rowsW_len t) (by omega) hc hcm (HR.out.keepsN K9) hb (-1)).mono ?_
              rintro e w11 ⟨_, hp⟩
              obtain ⟨ev2, rfl, hev2, k11⟩ := hp (by omega)
              rw [show proofV 0 0 none 0 0 = .agg #[.int .i64 0, .int .i64 0, .slice none 0 0] from rfl]
              clear hp
              go_wp2_with fail
              have kk11 := k11.alloc (.cells #[.int .i64 0, .int .i64 0, .slice none 0 0] 46)
              have K11 := K9.trans kk11 (fun _ h _ => h)
              have hev9b := hev9.keeps kk11 (fun _ h => h.elim)
              have hev2b := hev2.keeps ((Keeps.refl Nothing w11).alloc (.cells #[.int .i64 0, .int .i64 0, .slice none 0 0] 46)) (fun _ h => h.elim)
              clear K9 k11 kk11 hev2 hev9
              generalize w11.alloc (.cells #[.int .i64 0, .int .i64 0, .slice none 0 0] 46) = w12 at *
              refine (told5_any w12).mono ?_
              rintro e w13 ⟨rfl, k13⟩
              have K13 := K11.trans k13 (fun _ h _ => h)
              have hev9c := hev9b.keeps k13 (fun _ h => h.elim)
              have hev2c := hev2b.keeps k13 (fun _ h => h.elim)
              clear hev9b hev2b k13 K11
              go_wp2_with fail
              refine (is_any hev9c 2 0).mono ?_
              rintro e w14 ⟨rfl, n14, rfl⟩
              rw [show decide ((2 : Int) = 2 ∧ (0 : Int) = 0) = true from rfl]
              go_wp2_with fail
              refine (is_any (hev2c.drewN n14) 2 0).mono ?_
              rintro e w15 ⟨rfl, n15, rfl⟩
              rw [show decide ((2 : Int) = 2 ∧ (0 : Int) = 0) = true from rfl]
              go_wp2_with fail
              go_ret
              first | exact ⟨rfl, ((K.trans K13 (fun _ h _ => h)).drewN _)⟩ | exact ⟨rfl, ((K.trans K13 (fun _ h _ => h)).drewN _).drewN _⟩
set_option maxRecDepth 100000 in
theorem lifted (os : Os) (started : os.Started) (H : Type) (enc : TypeId × Value → H) :
    ReturnsInHanded {} Try.checked os 9 .any (Rows.merkleWaysSpec.pre6 enc Try.prog Try.f9 Rows.merkleWaysRow.domain false) (Rows.merkleWaysSpec.post enc Try.prog Try.f9 false true false false) := by
  refine returnsInHanded_of_change (C := Try.checked) own started (by kernel_rfl) Try.func9
    (ChangeSpec.witness6 (enc := enc) (C := Try.checked) false ⟨#[], #[.int .i64 0], []⟩ 8 (by kernel_rfl) (by kernel_rfl) (by kernel_rfl) (by kernel_rfl)) ?_
  intro W base args ds gs before hval0 hW hcnd _
  have hval : ∀ (j : Nat) t v, Try.f9.params[j]? = some t → args[j]? = some v → Value.okWide Try.prog W .any base t v := hval0
  have hW' := hW
  obtain ⟨p, q, hA0, hV, rfl, hfz, hnd⟩ := hW
  have hA : DataW.TrodAll enc Try.prog W 0 (fun _ => true) true Try.f9.params.toList args.toList ds p := hA0
  rw [Try.params9] at hA hval
  obtain ⟨v0, vs0, d0, ds0, p0, q0, hargs, rfl, rfl, h0, r0⟩ := trodAll_cons hA
  obtain ⟨rfl, rfl, rfl⟩ := trodAll_nil r0
  obtain rfl : args = #[v0] := by cases args; simp_all
  obtain ⟨rfl, rfl⟩ := trodVars_none hV
  have k0 := h0
  have lt0 : ∀ x ∈ p0, x.block < W.heap.size := by obtain ⟨m, hm⟩ := k0; exact DataW.trod_lt m _ _ _ hm
  obtain ⟨a0, rfl, rfl, rfl, w0⟩ := open_int Try.underlying3 (hval 0 3 v0 rfl rfl) h0
  clear hA0 hval0
  refine (walk W a0).mono fun e W' ⟨he, hk⟩ => ?_
  subst he
  have bel : Below W.heap.size W W' := hk.below (Nat.le_refl _) (fun _ h => h.elim)
  exact ⟨_, rfl, _, _, _, [], _, [], hW', trodAll_mk1 (shut_bool Try.underlying4 _), (trodAll_cons_mk (Below.trod laidOut (by kernel_rfl) (of_decide_eq_true (by kernel_rfl)) k0 bel lt0) trodAll_mk0), rfl, bel.frame _, fun h => by cases h⟩

/-- For every input the law returns true, and its arguments read as before. -/
theorem proved : Rows.MerkleWaysSaid :=
  OpenClaim.holds_of_wide 9 Try.f9 rfl rfl rfl rfl rfl rfl rfl ⟨rfl, rfl, rfl, rfl, rfl⟩ rfl rfl rfl rfl rfl (by kernel_rfl) Try.func9 (by kernel_rfl)
    (of_decide_eq_true (by kernel_rfl)) (by unfold Func.isWrapper; first | (rw [if_pos (by decide +kernel)]; kernel_rfl) | (rw [if_neg (by decide +kernel)]; exact ⟨rfl, rfl⟩))
    (fun os started H enc _ => lifted os started H enc)
#print axioms proved

end Go.Proofs.Ytdmfomjgmmkaeaa.merkleWays
