/- usufructref6.Lex, Same. -/
import Derived.Test.YtgnpklheohaghaaLex13
import Derived.Test.YtgnpklheohaghaaLex14
import Derived.Test.YtgnpklheohaghaaLex15
import Derived.OwnWalk
namespace Go.Proofs.Ytgnpklheohaghaa
open Go.RowKit

/-- What the document's Lex returns. -/
def RLexPost (w : World) (s : List UInt8) (e : Ending) (w' : World) : Prop :=
  ((lexRes s).2.1 = 0 → ∃ ao cap, e = .returned (.tuple #[.slice ao (lexRes s).1.length cap, .int .i64 0, .int .i64 0]) ∧ OwnT w' ao cap (lexRes s).1 ∧ Keeps Nothing w w') ∧
  ((lexRes s).2.1 ≠ 0 → e = .returned (.tuple #[.slice none 0 0, .int .i64 ((lexRes s).2.1 : Int), .int .i64 ((lexRes s).2.2 : Int)]) ∧ Keeps Nothing w w')
theorem life_tw (r : List UInt8) : isLife (r.takeWhile goC) = lifeOk r := by
  have htt : ∀ l : List UInt8, (l.takeWhile goC).takeWhile goC = l.takeWhile goC := fun l => by
    induction l with
    | nil => rfl
    | cons c l ih =>
      rw [List.takeWhile_cons]
      split
      · rename_i h
        rw [List.takeWhile_cons, if_pos h, ih]
      · rfl
  cases r with
  | nil => rfl
  | cons c r =>
    by_cases hb : begC c = true
    · have hg : goC c = true := by unfold goC; rw [hb]; rfl
      have hh : (c :: r).takeWhile goC = c :: r.takeWhile goC := by rw [List.takeWhile_cons, if_pos hg]
      have hrun : runN ((c :: r).takeWhile goC) = ((c :: r).takeWhile goC).length := by unfold runN; rw [htt]
      have hrun2 : runN (c :: r) = ((c :: r).takeWhile goC).length := rfl
      unfold isLife
      rw [hrun]
      have h1 : lifeOk ((c :: r).takeWhile goC) = (begC c && decide (runN ((c :: r).takeWhile goC) ≤ 32)) := by rw [hh]; rfl
      have h2 : lifeOk (c :: r) = (begC c && decide (runN (c :: r) ≤ 32)) := rfl
      rw [h1, h2, hrun, hrun2, hb, hh]
      simp
    · have h2 : lifeOk (c :: r) = false := by show (begC c && _) = false; rw [Bool.not_eq_true] at hb; rw [hb]; rfl
      rw [h2]
      by_cases hg : goC c = true
      · have hh : (c :: r).takeWhile goC = c :: r.takeWhile goC := by rw [List.takeWhile_cons, if_pos hg]
        unfold isLife
        have h1 : lifeOk ((c :: r).takeWhile goC) = (begC c && decide (runN ((c :: r).takeWhile goC) ≤ 32)) := by rw [hh]; rfl
        rw [Bool.not_eq_true] at hb
        rw [h1, hb]
        simp
      · rw [List.takeWhile_cons, if_neg hg]
        rfl
theorem name_tw {c : UInt8} {r : List UInt8} (hb : begC c = true) (hw : isWord ((c :: r).takeWhile goC) = false) : isName ((c :: r).takeWhile goC) = decide (runN (c :: r) ≤ 32) := by
  rw [isName_life, life_tw, hw]
  show ((begC c && decide (runN (c :: r) ≤ 32)) && _) = _
  rw [hb]
  simp

theorem sign_cases (c : UInt8) (r : List UInt8) {N k : Nat} (hl : (c :: r).length + k ≤ N) : (signN (c :: r) = 0 ∧ signR (c :: r) = none) ∨ (signN (c :: r) ≠ 0 ∧ k + signN (c :: r) ≤ N ∧ signR (c :: r) = some (5, (c :: r).take (signN (c :: r)), signN (c :: r))) := by
  have hR : signR (c :: r) = if twosL.contains ((c :: r).take 2) then some (5, (c :: r).take 2, 2) else if signsL.contains c then some (5, [c], 1) else none := rfl
  have hN : signN (c :: r) = if twosL.contains ((c :: r).take 2) then 2 else if signsL.contains c then 1 else 0 := rfl
  rw [hR, hN]
  by_cases h2 : twosL.contains ((c :: r).take 2) = true
  · have hlen := twos_len (List.contains_iff_mem.1 h2)
    rw [List.length_take] at hlen
    right
    rw [if_pos h2, if_pos h2]
    exact ⟨by decide, by omega, rfl⟩
  · rw [if_neg h2, if_neg h2]
    by_cases h1 : signsL.contains c = true
    · right
      rw [if_pos h1, if_pos h1]
      refine ⟨by decide, by simp only [List.length_cons] at hl; omega, rfl⟩
    · left
      rw [if_neg h1, if_neg h1]
      exact ⟨rfl, rfl⟩

attribute [local go_sem ↓] exec_store_tok
attribute [local go_sem] rowOk_new World.setRow_alloc_new aggOk_tok

set_option maxRecDepth 100000 in
set_option maxHeartbeats 4000000 in
theorem rlex_any (w : World) (s : List UInt8) (hs : s.length < 9223372036854775806) : Calls Try.prog 14 #[.string ⟨s.toArray⟩] w (RLexPost w s) := by
  have hsz0 : (ByteArray.mk s.toArray).size = s.length := rfl
  by_cases hbig : 1048576 < s.length
  · have hlr : lexRes s = ([], 5, 0) := by unfold lexRes; rw [if_pos hbig]
    have m1 : (1048576 : Int) < s.length := by omega
    have HLR := shut hlr
    clear hlr
    go_enter Try.func14, Try.ntmps14
    go_wp2_with fail
    go_ret3
    refine ⟨fun h => ?_, fun _ => ?_⟩
    · rw [HLR.out] at h; cases h
    · rw [HLR.out]; exact ⟨rfl, Keeps.refl _ _⟩
  · have m1 : ¬ (1048576 : Int) < s.length := by omega
    have hlr := lexRes_small (Nat.le_of_not_lt hbig)
    have HLR := shut hlr
    have hbl0 := fun W => rskip_any W s hs 0 (Nat.zero_le _)
    rw [List.drop_zero] at hbl0
    clear hlr
    go_enter Try.func14, Try.ntmps14
    go_wp2_with fail
    refine (hbl0 w).mono ?_
    rintro e w' ⟨rfl, hw⟩
    subst w'
    have hsk := skipL_len s
    have hsuf := skip_suffix s (s.length + 1) s 0 List.drop_zero (Nat.zero_le _)
    have HS0 : Shut (s.drop (s.length - (skipL s).length) = skipL s) := shut hsuf
    clear hbl0 hsuf
    have K0 := Keeps.refl Nothing w
    generalize hk0 : s.length - (skipL s).length = k0 at *
    have HK0 := shut hk0
    have hk09 : k0 ≤ s.length := by omega
    clear hk0
    have hend : ∀ (ts : List Tok) (ao : Option Addr) (cap : Nat) (W : World), OwnT W ao cap (ts ++ [⟨0, [], s.length⟩]) → (ts ++ [⟨0, [], s.length⟩], none) = lexL s → Keeps Nothing w W → RLexPost w s (.returned (.tuple #[.slice ao (ts.length + 1) cap, .int .i64 0, .int .i64 0])) W := fun ts ao cap W ho he hk => by
      have hr : lexRes s = (ts ++ [⟨0, [], s.length⟩], 0, 0) := by rw [HLR.out, ← he]
      unfold RLexPost
      rw [hr]
      exact ⟨fun _ => ⟨ao, cap, by rw [List.length_append]; rfl, ho, hk⟩, fun h => absurd rfl h⟩
    have hbad : ∀ (p : Nat) (W : World), (lexL s).2 = some p → Keeps Nothing w W → RLexPost w s (.returned (.tuple #[.slice none 0 0, .int .i64 20, .int .i64 (p : Int)])) W := fun p W he hk => by
      have hr : lexRes s = ([], 20, p) := by rw [HLR.out, he]
      unfold RLexPost
      rw [hr]
      exact ⟨fun h => absurd h (show ¬ (20 : Nat) = 0 by decide), fun _ => ⟨rfl, hk⟩⟩
    have HEND := shut hend
    have HBAD := shut hbad
    clear hend hbad
    go_wp2_with fail
    go_loopw [5, 6] (fun s5 s6 wx => ∃ (ts : List Tok) (ao : Option Addr) (cap k : Nat), s6 = .int .i64 k ∧ k ≤ s.length ∧ s5 = .slice ao ts.length cap ∧ OwnT wx ao cap ts ∧ Keeps Nothing w wx ∧ Shut (∀ g, blockOf ao = some g → w.heap.size ≤ g) ∧ ts.length ≤ k ∧
      Shut (lexL s = (ts ++ (lexF s.length (s.length - k + 1) (s.drop k)).1, (lexF s.length (s.length - k + 1) (s.drop k)).2))) (fun _ s6 _ => s.length - (intOf s6).toNat)
    case atStart =>
      refine ⟨[], none, 0, k0, rfl, hk09, rfl, ownT_nil _, K0, shut (fun g hg => by simp [blockOf] at hg), Nat.zero_le _, shut ?_⟩
      rw [HS0.out, List.nil_append]
      unfold lexL
      have h1 := HK0.out
      rw [lexF_more s.length (s.length + 1) (s.length - k0 + 1) (skipL s) (by omega) (by omega)]
    case round =>
      clear K0 HS0
      obtain ⟨ts, ao, cap, k, rfl, hk, rfl, O1, K1, HF, htk, HL⟩ := hrel
      by_cases hlt : k < s.length
      · obtain ⟨c, hc⟩ : ∃ c, s[k]? = some c := ⟨_, List.getElem?_eq_getElem hlt⟩
        have hdc := drop_cons hc
        have m2 : (k : Int) < s.length := by omega
        have hll : (s.drop k).length = s.length - k := List.length_drop
        have hstep : lexF s.length (s.length - k + 1) (s.drop k) = match nextL (s.drop k) with | none => ([], some (s.length - (s.drop k).length)) | some (kk, t, m) => (⟨kk, t, s.length - (s.drop k).length⟩ :: (lexF s.length (s.length - k) (skipL ((s.drop k).drop m))).1, (lexF s.length (s.length - k) (skipL ((s.drop k).drop m))).2) := by
          rw [hdc]; exact lexF_step _ _ _ _
        rw [hll, show s.length - (s.length - k) = k by omega] at hstep
        have HST := shut hstep
        have HDC := shut hdc
        have hcl := c.toNat_lt
        have hix := fun kk W => str_at s hc kk W
        have hnx := next_eq c (s.drop (k + 1))
        rw [← hdc] at hnx
        have HNE := shut hnx
        have hc39 : c = 39 ↔ c.toNat = 39 := by rw [← UInt8.toNat_inj]; rfl
        have HC39 := shut hc39
        have HLL := shut hll
        clear hc hdc hstep hnx hc39 hll
        go_wp2_with fail
        have B8 := blk_new wr #[.int .i64 0, .string ⟨#[]⟩, .int .i64 (k : Int)] 29
        have KX5 := (Keeps.refl Nothing wr).alloc (.cells #[.int .i64 0, .string ⟨#[]⟩, .int .i64 (k : Int)] 29)
        have HG8 := shut (show wr.heap.size = wr.heap.size from rfl)
        generalize wr.alloc (.cells #[.int .i64 0, .string ⟨#[]⟩, .int .i64 (k : Int)] 29) = W5 at *
        generalize hg8 : wr.heap.size = g8 at B8 HG8 ⊢
        replace HG8 := shut hg8
        clear hg8
        have a0 := blk_cell B8 0 (show (#[.int .i64 0, .string ⟨#[]⟩, .int .i64 (k : Int)] : Array Value)[0]? = some (.int .i64 0) from rfl)
        have a1 := blk_cell B8 1 (show (#[.int .i64 0, .string ⟨#[]⟩, .int .i64 (k : Int)] : Array Value)[1]? = some (.string ⟨#[]⟩) from rfl)
        have f0 := blk_free B8 0
        have f1 := blk_free B8 1
        have a2 := trivial
        refine (letter_any _ c).mono ?_
        rintro e1 w1 ⟨rfl, hw⟩
        subst w1
        by_cases hbg : begC c = true
        · have hrn := runN_le (s.drop k)
          rw [List.length_drop] at hrn
          have htw := tw_take (s.drop k)
          have hra := fun W => rrun_any W s (by omega) (k) (by omega)
          obtain ⟨n, hn⟩ : ∃ n, runN (s.drop k) = n := ⟨_, rfl⟩
          rw [hn] at hrn hra
          have hcut := fun W => str_cut s (i := k) (n := n) (j := k + n) rfl (by omega) W
          obtain ⟨T, hT⟩ : ∃ T, (s.drop k).takeWhile goC = T := ⟨_, rfl⟩
          rw [hn, hT] at htw
          rw [htw] at hcut
          have htl : T.length = n := by rw [← hT, ← hn]; rfl
          obtain ⟨e, he⟩ : ∃ e, k + n = e := ⟨_, rfl⟩
          rw [he] at hra hcut
          have HE := shut he
          have hrv : nextL (s.drop k) = nameR (s.drop k) := by rw [HNE.out, if_pos hbg]
          unfold nameR at hrv
          rw [hT, hn] at hrv
          have HRV := shut hrv
          have hname : isWord T = false → isName T = decide (n ≤ 32) := fun h => by
            have h1 := HDC.out
            rw [← hT, ← hn, h1]
            rw [← hT, h1] at h
            exact name_tw hbg h
          have HNAME := shut hname
          rw [hbg]
          clear hn hT htw he hrv hname
          go_wp2_with fail
          refine (hra _).mono ?_
          rintro e1 w1 ⟨rfl, hw⟩
          subst w1
          go_wp2_with fail

          have B0 := blk_set (blk_set B8 1 (.string ⟨T.toArray⟩)) 0 (.int .i64 1)
          have KX0 : Keeps Nothing wr ((W5.setCell ⟨g8, 1, none⟩ (.string ⟨T.toArray⟩)).setCell ⟨g8, 0, none⟩ (.int .i64 1)) := (KX5.setCell (fun h => absurd h (by have := HG8.out; show ¬ g8 < _; omega)) _).setCell (fun h => absurd h (by have := HG8.out; show ¬ g8 < _; omega)) _
          replace B0 : Blk ((W5.setCell ⟨g8, 1, none⟩ (.string ⟨T.toArray⟩)).setCell ⟨g8, 0, none⟩ (.int .i64 1)) g8 #[.int .i64 1, .string ⟨T.toArray⟩, .int .i64 k] 29 := B0
          clear a0 a1 a2 f0 f1 B8 KX5
          generalize (W5.setCell ⟨g8, 1, none⟩ (.string ⟨T.toArray⟩)).setCell ⟨g8, 0, none⟩ (.int .i64 1) = W at *
          have B := B0
          have KX := KX0
          clear B0 KX0
          refine (rword_any _ T).mono ?_
          rintro e1 w1 ⟨rfl, k1⟩
          replace B := k1.blk B (fun h => h)
          replace KX := KX.trans k1 (fun _ h _ => h)
          clear k1
          by_cases hw : isWord T = true
          · have HNX : Shut (nextL (s.drop k) = some (2, T, n)) := shut (by rw [HRV.out, if_pos hw])
            have b0 := blk_cell B 0 (show (#[.int .i64 1, .string ⟨T.toArray⟩, .int .i64 k] : Array Value)[0]? = some (.int .i64 1) from rfl)
            have b1 := blk_cell B 1 (show (#[.int .i64 1, .string ⟨T.toArray⟩, .int .i64 k] : Array Value)[1]? = some (.string ⟨T.toArray⟩) from rfl)
            have g0 := blk_free B 0
            have b2 := blk_cell B 2 (show (#[.int .i64 1, .string ⟨T.toArray⟩, .int .i64 k] : Array Value)[2]? = some (.int .i64 k) from rfl)
            have KX2 : Keeps Nothing wr (w1.setCell ⟨g8, 0, none⟩ (.int .i64 2)) := KX.setCell (fun h => absurd h (by have := HG8.out; show ¬ g8 < _; omega)) _
            clear B KX
            have KX := KX2
            clear KX2
            rw [hw]
            have he2 : e ≤ s.length := by have := HE.out; omega
            have O2 : OwnT (w1.setCell ⟨g8, 0, none⟩ (.int .i64 2)) ao cap ts := KX.own O1 (fun _ _ h => h)
            have KA := K1.trans KX (fun _ h _ => h)
            have hbl := fun W => rskip_any W s hs e he2
            have hsl := skipL_len (s.drop e)
            rw [List.length_drop] at hsl
            have hsuf2 : s.drop (s.length - (skipL (s.drop e)).length) = skipL (s.drop e) := skip_suffix s ((s.drop e).length + 1) (s.drop e) e rfl he2
            have hdd : (s.drop k).drop n = s.drop e := by rw [List.drop_drop, HE.out]
            obtain ⟨k2, hk2⟩ : ∃ k2, s.length - (skipL (s.drop e)).length = k2 := ⟨_, rfl⟩
            rw [hk2] at hbl hsuf2
            have hm1 : 1 ≤ n := (next_bd HNX.out).1
            have hk2a : k < k2 := by have := HE.out; omega
            have hk2b : k2 ≤ s.length := by omega
            have hL2 : lexL s = ((ts ++ [⟨2, T, k⟩]) ++ (lexF s.length (s.length - k2 + 1) (s.drop k2)).1, (lexF s.length (s.length - k2 + 1) (s.drop k2)).2) := by
              rw [HL.out, HST.out, HNX.out]
              dsimp only
              rw [hdd, ← hsuf2]
              rw [lexF_more s.length (s.length - k) (s.length - k2 + 1) (s.drop k2) (by rw [List.length_drop]; omega) (by rw [List.length_drop]; omega)]
              simp
            have HL2 := shut hL2
            have hBt := blk_new (w1.setCell ⟨g8, 0, none⟩ (.int .i64 2)) #[.int .i64 2, .string ⟨T.toArray⟩, .int .i64 k] 29
            rw [show (w1.setCell ⟨g8, 0, none⟩ (.int .i64 2)).heap.size = w1.heap.size by simp only [World.size_setCell]] at hBt
            clear hL2 hsuf2 hk2 hdd HL HST HNX HBAD HEND hsl hm1
            go_wp2_with (at_builtin; refine wpList_appT _ rfl (.tmp 100) (.tmp 102) rfl ao cap ts rfl (World.ownsRow.alloc O2 _) w1.heap.size ⟨2, T, k⟩ rfl hBt (by omega) ?_)
            intro ao2 cap2 w2 o2 k2' m2'
            have K2 : Keeps Nothing w w2 := (KA.alloc _).trans k2' (fun i hi hlt => by have := HF.out i hi; omega)
            have h9 : (w1.setCell ⟨g8, 0, none⟩ (.int .i64 2)).heap.size = w1.heap.size := by simp only [World.size_setCell]
            have HF2 := shut (m2'.new (by have := KA.size; first | omega | (simp only [World.size_alloc]; omega)) HF.out)
            clear h9 k2' m2' hBt O1 O2 K1 KX KA 
            go_wp2_with fail
            refine (hbl w2).mono ?_
            rintro e3 w3 ⟨rfl, hw⟩
            subst w3
            go_wp2_with fail
            go_roundw
            case rel => exact ⟨ts ++ [⟨2, T, k⟩], ao2, cap2, k2, rfl, hk2b, by simp, o2, K2, HF2, by simp; omega, HL2⟩
            case measure => simp [intOf]; omega
          · rw [Bool.not_eq_true] at hw
            have b0 := blk_cell B 0 (show (#[.int .i64 1, .string ⟨T.toArray⟩, .int .i64 k] : Array Value)[0]? = some (.int .i64 1) from rfl)
            have b1 := blk_cell B 1 (show (#[.int .i64 1, .string ⟨T.toArray⟩, .int .i64 k] : Array Value)[1]? = some (.string ⟨T.toArray⟩) from rfl)
            have g0 := blk_free B 0
            rw [hw]
            go_wp2_with fail
            refine (rname_any _ T (by omega)).mono ?_
            rintro e1 w2 ⟨rfl, k1⟩
            replace B := k1.blk B (fun h => h)
            replace KX := KX.trans k1 (fun _ h _ => h)
            clear k1 b0 b1 g0
            have W := w2
            clear W
            by_cases h32 : n ≤ 32
            · have HNX : Shut (nextL (s.drop k) = some (1, T, n)) := shut (by rw [HRV.out, if_neg (by rw [hw]; decide), if_pos h32])
              rw [HNAME.out hw, decide_eq_true h32]
              generalize w2 = W at *
              have he2 : e ≤ s.length := by have := HE.out; omega
              have b0 := blk_cell B 0 (show (#[.int .i64 1, .string ⟨T.toArray⟩, .int .i64 k] : Array Value)[0]? = some (.int .i64 1) from rfl)
              have b1 := blk_cell B 1 (show (#[.int .i64 1, .string ⟨T.toArray⟩, .int .i64 k] : Array Value)[1]? = some (.string ⟨T.toArray⟩) from rfl)
              have b2 := blk_cell B 2 (show (#[.int .i64 1, .string ⟨T.toArray⟩, .int .i64 k] : Array Value)[2]? = some (.int .i64 k) from rfl)
              have O2 : OwnT W ao cap ts := KX.own O1 (fun _ _ h => h)
              have KA := K1.trans KX (fun _ h _ => h)
              have hbl := fun W => rskip_any W s hs e he2
              have hsl := skipL_len (s.drop e)
              rw [List.length_drop] at hsl
              have hsuf2 : s.drop (s.length - (skipL (s.drop e)).length) = skipL (s.drop e) := skip_suffix s ((s.drop e).length + 1) (s.drop e) e rfl he2
              have hdd : (s.drop k).drop n = s.drop e := by rw [List.drop_drop, HE.out]
              obtain ⟨k2, hk2⟩ : ∃ k2, s.length - (skipL (s.drop e)).length = k2 := ⟨_, rfl⟩
              rw [hk2] at hbl hsuf2
              have hm1 : 1 ≤ n := (next_bd HNX.out).1
              have hk2a : k < k2 := by have := HE.out; omega
              have hk2b : k2 ≤ s.length := by omega
              have hL2 : lexL s = ((ts ++ [⟨1, T, k⟩]) ++ (lexF s.length (s.length - k2 + 1) (s.drop k2)).1, (lexF s.length (s.length - k2 + 1) (s.drop k2)).2) := by
                rw [HL.out, HST.out, HNX.out]
                dsimp only
                rw [hdd, ← hsuf2]
                rw [lexF_more s.length (s.length - k) (s.length - k2 + 1) (s.drop k2) (by rw [List.length_drop]; omega) (by rw [List.length_drop]; omega)]
                simp
              have HL2 := shut hL2
              have hBt := blk_new W #[.int .i64 1, .string ⟨T.toArray⟩, .int .i64 k] 29
              clear hL2 hsuf2 hk2 hdd HL HST HNX HBAD HEND hsl hm1
              go_wp2_with (at_builtin; refine wpList_appT _ rfl (.tmp 100) (.tmp 102) rfl ao cap ts rfl (World.ownsRow.alloc O2 _) W.heap.size ⟨1, T, k⟩ rfl hBt (by omega) ?_)
              intro ao2 cap2 w2 o2 k2' m2'
              have K2 : Keeps Nothing w w2 := (KA.alloc _).trans k2' (fun i hi hlt => by have := HF.out i hi; omega)
              have HF2 := shut (m2'.new (by have := KA.size; first | omega | (simp only [World.size_alloc]; omega)) HF.out)
              clear k2' m2' hBt O1 O2 K1 KX KA B b0 b1 b2
              go_wp2_with fail
              refine (hbl w2).mono ?_
              rintro e3 w3 ⟨rfl, hw⟩
              subst w3
              go_wp2_with fail
              go_roundw
              case rel => exact ⟨ts ++ [⟨1, T, k⟩], ao2, cap2, k2, rfl, hk2b, by simp, o2, K2, HF2, by simp; omega, HL2⟩
              case measure => simp [intOf]; omega
            · have HNX : Shut (nextL (s.drop k) = none) := shut (by rw [HRV.out, if_neg (by rw [hw]; decide), if_neg h32])
              rw [HNAME.out hw, decide_eq_false h32]
              have hbd : (lexL s).2 = some k := by rw [HL.out, HST.out, HNX.out]
              go_wp2_with fail
              go_ret3
              exact HBAD.out k _ hbd (K1.trans KX (fun _ h _ => h))
        · have hbg2 : begC c = false := by rwa [Bool.not_eq_true] at hbg
          by_cases h39 : c.toNat = 39
          · have hrn := runN_le (s.drop (k + 1))
            rw [List.length_drop] at hrn
            have htw := tw_take (s.drop (k + 1))
            have hra := fun W => rrun_any W s (by omega) ((k + 1)) (by omega)
            obtain ⟨n, hn⟩ : ∃ n, runN (s.drop (k + 1)) = n := ⟨_, rfl⟩
            rw [hn] at hrn hra
            have hcut := fun W => str_cut s (i := (k + 1)) (n := n) (j := (k + 1) + n) rfl (by omega) W
            obtain ⟨T, hT⟩ : ∃ T, (s.drop (k + 1)).takeWhile goC = T := ⟨_, rfl⟩
            rw [hn, hT] at htw
            rw [htw] at hcut
            have htl : T.length = n := by rw [← hT, ← hn]; rfl
            obtain ⟨e, he⟩ : ∃ e, k + (n + 1) = e := ⟨_, rfl⟩
            rw [show k + 1 + n = e by omega] at hra hcut
            have HE := shut he
            have hrv : nextL (s.drop k) = lifeR (s.drop (k + 1)) := by rw [HNE.out, if_neg hbg, if_neg (by simp [digC]; omega), if_pos (HC39.out.2 h39)]
            unfold lifeR at hrv
            rw [hT, hn] at hrv
            have HRV := shut hrv
            have hlf := life_tw (s.drop (k + 1))
            rw [hT] at hlf
            have HLF := shut hlf
            obtain ⟨k1', hk1'⟩ : ∃ k1', k + 1 = k1' := ⟨_, rfl⟩
            rw [hk1'] at hra hcut
            have p1 : (k : Int) + 1 = (k1' : Int) := by omega
            have p2 : ((c.toNat : Int) == 39) = true := by rw [beq_iff_eq]; omega
            have p3 : (c.toNat : Int) = 39 := by omega
            have p4 : k1' ≤ s.length := by omega
            rw [hbg2]
            clear hn hT htw he hrv hlf hk1'
            go_wp2_with fail
            refine (hra _).mono ?_
            rintro e1 w1 ⟨rfl, hw⟩
            subst w1
            go_wp2_with fail

            have B0 := blk_set (blk_set B8 1 (.string ⟨T.toArray⟩)) 0 (.int .i64 3)
            have KX0 : Keeps Nothing wr ((W5.setCell ⟨g8, 1, none⟩ (.string ⟨T.toArray⟩)).setCell ⟨g8, 0, none⟩ (.int .i64 3)) := (KX5.setCell (fun h => absurd h (by have := HG8.out; show ¬ g8 < _; omega)) _).setCell (fun h => absurd h (by have := HG8.out; show ¬ g8 < _; omega)) _
            replace B0 : Blk ((W5.setCell ⟨g8, 1, none⟩ (.string ⟨T.toArray⟩)).setCell ⟨g8, 0, none⟩ (.int .i64 3)) g8 #[.int .i64 3, .string ⟨T.toArray⟩, .int .i64 k] 29 := B0
            clear a0 a1 a2 f0 f1 B8 KX5
            generalize (W5.setCell ⟨g8, 1, none⟩ (.string ⟨T.toArray⟩)).setCell ⟨g8, 0, none⟩ (.int .i64 3) = W at *
            have B := B0
            have KX := KX0
            clear B0 KX0
            refine (rlife_any _ T (by omega)).mono ?_
            rintro e1 w1 ⟨rfl, hw⟩
            subst w1
            rw [HLF.out]
            by_cases hl : lifeOk (s.drop (k + 1)) = true
            · have HNX : Shut (nextL (s.drop k) = some (3, T, n + 1)) := shut (by rw [HRV.out, if_pos hl])
              rw [hl]
              have he2 : e ≤ s.length := by have := HE.out; omega
              have b0 := blk_cell B 0 (show (#[.int .i64 3, .string ⟨T.toArray⟩, .int .i64 k] : Array Value)[0]? = some (.int .i64 3) from rfl)
              have b1 := blk_cell B 1 (show (#[.int .i64 3, .string ⟨T.toArray⟩, .int .i64 k] : Array Value)[1]? = some (.string ⟨T.toArray⟩) from rfl)
              have b2 := blk_cell B 2 (show (#[.int .i64 3, .string ⟨T.toArray⟩, .int .i64 k] : Array Value)[2]? = some (.int .i64 k) from rfl)
              have O2 : OwnT W ao cap ts := KX.own O1 (fun _ _ h => h)
              have KA := K1.trans KX (fun _ h _ => h)
              have hbl := fun W => rskip_any W s hs e he2
              have hsl := skipL_len (s.drop e)
              rw [List.length_drop] at hsl
              have hsuf2 : s.drop (s.length - (skipL (s.drop e)).length) = skipL (s.drop e) := skip_suffix s ((s.drop e).length + 1) (s.drop e) e rfl he2
              have hdd : (s.drop k).drop (n + 1) = s.drop e := by rw [List.drop_drop, HE.out]
              obtain ⟨k2, hk2⟩ : ∃ k2, s.length - (skipL (s.drop e)).length = k2 := ⟨_, rfl⟩
              rw [hk2] at hbl hsuf2
              have hm1 : 1 ≤ (n + 1) := (next_bd HNX.out).1
              have hk2a : k < k2 := by have := HE.out; omega
              have hk2b : k2 ≤ s.length := by omega
              have hL2 : lexL s = ((ts ++ [⟨3, T, k⟩]) ++ (lexF s.length (s.length - k2 + 1) (s.drop k2)).1, (lexF s.length (s.length - k2 + 1) (s.drop k2)).2) := by
                rw [HL.out, HST.out, HNX.out]
                dsimp only
                rw [hdd, ← hsuf2]
                rw [lexF_more s.length (s.length - k) (s.length - k2 + 1) (s.drop k2) (by rw [List.length_drop]; omega) (by rw [List.length_drop]; omega)]
                simp
              have HL2 := shut hL2
              have hBt := blk_new W #[.int .i64 3, .string ⟨T.toArray⟩, .int .i64 k] 29
              clear hL2 hsuf2 hk2 hdd HL HST HNX HBAD HEND hsl hm1
              go_wp2_with (at_builtin; refine wpList_appT _ rfl (.tmp 100) (.tmp 102) rfl ao cap ts rfl (World.ownsRow.alloc O2 _) W.heap.size ⟨3, T, k⟩ rfl hBt (by omega) ?_)
              intro ao2 cap2 w2 o2 k2' m2'
              have K2 : Keeps Nothing w w2 := (KA.alloc _).trans k2' (fun i hi hlt => by have := HF.out i hi; omega)
              have HF2 := shut (m2'.new (by have := KA.size; first | omega | (simp only [World.size_alloc]; omega)) HF.out)
              clear k2' m2' hBt O1 O2 K1 KX KA B b0 b1 b2
              go_wp2_with fail
              refine (hbl w2).mono ?_
              rintro e3 w3 ⟨rfl, hw⟩
              subst w3
              go_wp2_with fail
              go_roundw
              case rel => exact ⟨ts ++ [⟨3, T, k⟩], ao2, cap2, k2, rfl, hk2b, by simp, o2, K2, HF2, by simp; omega, HL2⟩
              case measure => simp [intOf]; omega
            · have HNX : Shut (nextL (s.drop k) = none) := shut (by rw [HRV.out, if_neg hl])
              rw [Bool.not_eq_true] at hl
              rw [hl]
              have hbd : (lexL s).2 = some k := by rw [HL.out, HST.out, HNX.out]
              go_wp2_with fail
              go_ret3
              exact HBAD.out k _ hbd (K1.trans KX (fun _ h _ => h))
          · have y1 : ((c.toNat : Int) == 39) = false := by rw [beq_eq_false_iff_ne]; omega
            rw [hbg2]
            go_wp2_with fail
            refine (rdigit_any _ c).mono ?_
            rintro e1 w1 ⟨rfl, hw⟩
            subst w1
            by_cases hdg : digC c = true
            · have hrn := runN_le (s.drop k)
              rw [List.length_drop] at hrn
              have htw := tw_take (s.drop k)
              have hra := fun W => rrun_any W s (by omega) (k) (by omega)
              obtain ⟨n, hn⟩ : ∃ n, runN (s.drop k) = n := ⟨_, rfl⟩
              rw [hn] at hrn hra
              have hcut := fun W => str_cut s (i := k) (n := n) (j := k + n) rfl (by omega) W
              obtain ⟨T, hT⟩ : ∃ T, (s.drop k).takeWhile goC = T := ⟨_, rfl⟩
              rw [hn, hT] at htw
              rw [htw] at hcut
              have htl : T.length = n := by rw [← hT, ← hn]; rfl
              obtain ⟨e, he⟩ : ∃ e, k + n = e := ⟨_, rfl⟩
              rw [he] at hra hcut
              have HE := shut he
              have hrv : nextL (s.drop k) = numR (s.drop k) := by rw [HNE.out, if_neg hbg, if_pos hdg]
              unfold numR at hrv
              rw [hT, hn] at hrv
              have HRV := shut hrv
              have hTne : T ≠ [] := by
                intro e0
                have h1 := HDC.out
                rw [e0, h1, List.takeWhile_cons, if_pos (by unfold goC; rw [hdg]; simp)] at hT
                cases hT
              rw [hdg]
              clear hn hT htw he hrv
              go_wp2_with fail
              refine (hra _).mono ?_
              rintro e1 w1 ⟨rfl, hw⟩
              subst w1
              go_wp2_with fail

              have B0 := blk_set (blk_set B8 1 (.string ⟨T.toArray⟩)) 0 (.int .i64 4)
              have KX0 : Keeps Nothing wr ((W5.setCell ⟨g8, 1, none⟩ (.string ⟨T.toArray⟩)).setCell ⟨g8, 0, none⟩ (.int .i64 4)) := (KX5.setCell (fun h => absurd h (by have := HG8.out; show ¬ g8 < _; omega)) _).setCell (fun h => absurd h (by have := HG8.out; show ¬ g8 < _; omega)) _
              replace B0 : Blk ((W5.setCell ⟨g8, 1, none⟩ (.string ⟨T.toArray⟩)).setCell ⟨g8, 0, none⟩ (.int .i64 4)) g8 #[.int .i64 4, .string ⟨T.toArray⟩, .int .i64 k] 29 := B0
              clear a0 a1 a2 f0 f1 B8 KX5
              generalize (W5.setCell ⟨g8, 1, none⟩ (.string ⟨T.toArray⟩)).setCell ⟨g8, 0, none⟩ (.int .i64 4) = W at *
              have B := B0
              have KX := KX0
              clear B0 KX0
              refine (rnumber_any _ T hTne (by omega)).mono ?_
              rintro e1 w1 ⟨rfl, hw⟩
              subst w1
              clear hTne
              by_cases hl : numOk T = true
              · have HNX : Shut (nextL (s.drop k) = some (4, T, n)) := shut (by rw [HRV.out, if_pos hl])
                rw [hl]
                have he2 : e ≤ s.length := by have := HE.out; omega
                have b0 := blk_cell B 0 (show (#[.int .i64 4, .string ⟨T.toArray⟩, .int .i64 k] : Array Value)[0]? = some (.int .i64 4) from rfl)
                have b1 := blk_cell B 1 (show (#[.int .i64 4, .string ⟨T.toArray⟩, .int .i64 k] : Array Value)[1]? = some (.string ⟨T.toArray⟩) from rfl)
                have b2 := blk_cell B 2 (show (#[.int .i64 4, .string ⟨T.toArray⟩, .int .i64 k] : Array Value)[2]? = some (.int .i64 k) from rfl)
                have O2 : OwnT W ao cap ts := KX.own O1 (fun _ _ h => h)
                have KA := K1.trans KX (fun _ h _ => h)
                have hbl := fun W => rskip_any W s hs e he2
                have hsl := skipL_len (s.drop e)
                rw [List.length_drop] at hsl
                have hsuf2 : s.drop (s.length - (skipL (s.drop e)).length) = skipL (s.drop e) := skip_suffix s ((s.drop e).length + 1) (s.drop e) e rfl he2
                have hdd : (s.drop k).drop n = s.drop e := by rw [List.drop_drop, HE.out]
                obtain ⟨k2, hk2⟩ : ∃ k2, s.length - (skipL (s.drop e)).length = k2 := ⟨_, rfl⟩
                rw [hk2] at hbl hsuf2
                have hm1 : 1 ≤ n := (next_bd HNX.out).1
                have hk2a : k < k2 := by have := HE.out; omega
                have hk2b : k2 ≤ s.length := by omega
                have hL2 : lexL s = ((ts ++ [⟨4, T, k⟩]) ++ (lexF s.length (s.length - k2 + 1) (s.drop k2)).1, (lexF s.length (s.length - k2 + 1) (s.drop k2)).2) := by
                  rw [HL.out, HST.out, HNX.out]
                  dsimp only
                  rw [hdd, ← hsuf2]
                  rw [lexF_more s.length (s.length - k) (s.length - k2 + 1) (s.drop k2) (by rw [List.length_drop]; omega) (by rw [List.length_drop]; omega)]
                  simp
                have HL2 := shut hL2
                have hBt := blk_new W #[.int .i64 4, .string ⟨T.toArray⟩, .int .i64 k] 29
                clear hL2 hsuf2 hk2 hdd HL HST HNX HBAD HEND hsl hm1
                go_wp2_with (at_builtin; refine wpList_appT _ rfl (.tmp 100) (.tmp 102) rfl ao cap ts rfl (World.ownsRow.alloc O2 _) W.heap.size ⟨4, T, k⟩ rfl hBt (by omega) ?_)
                intro ao2 cap2 w2 o2 k2' m2'
                have K2 : Keeps Nothing w w2 := (KA.alloc _).trans k2' (fun i hi hlt => by have := HF.out i hi; omega)
                have HF2 := shut (m2'.new (by have := KA.size; first | omega | (simp only [World.size_alloc]; omega)) HF.out)
                clear k2' m2' hBt O1 O2 K1 KX KA B b0 b1 b2
                go_wp2_with fail
                refine (hbl w2).mono ?_
                rintro e3 w3 ⟨rfl, hw⟩
                subst w3
                go_wp2_with fail
                go_roundw
                case rel => exact ⟨ts ++ [⟨4, T, k⟩], ao2, cap2, k2, rfl, hk2b, by simp, o2, K2, HF2, by simp; omega, HL2⟩
                case measure => simp [intOf]; omega
              · have HNX : Shut (nextL (s.drop k) = none) := shut (by rw [HRV.out, if_neg hl])
                rw [Bool.not_eq_true] at hl
                rw [hl]
                have hbd : (lexL s).2 = some k := by rw [HL.out, HST.out, HNX.out]
                go_wp2_with fail
                go_ret3
                exact HBAD.out k _ hbd (K1.trans KX (fun _ h _ => h))
            · have hdg2 : digC c = false := by rwa [Bool.not_eq_true] at hdg
              have hrv : nextL (s.drop k) = signR (s.drop k) := by rw [HNE.out, if_neg hbg, if_neg hdg, if_neg (fun h => h39 (HC39.out.1 h))]
              have hsg : (signN (s.drop k) = 0 ∧ signR (s.drop k) = none) ∨ (signN (s.drop k) ≠ 0 ∧ k + signN (s.drop k) ≤ s.length ∧ signR (s.drop k) = some (5, (s.drop k).take (signN (s.drop k)), signN (s.drop k))) := by
                have h1 := HDC.out
                have h2 := HLL.out
                rw [h1] at h2 ⊢
                exact sign_cases c (s.drop (k + 1)) (by simp only [List.length_cons] at h2 ⊢; omega)
              rw [hdg2]
              go_wp2_with fail
              refine (rsign_any _ s hs k hlt).mono ?_
              rintro e1 w1 ⟨rfl, k1⟩
              have B8' := k1.blk B8 (fun h => h)
              have KX5' := KX5.trans k1 (fun _ h _ => h)
              clear B8 KX5 k1 a0 a1 f0 f1
              have B8 := B8'
              have KX5 := KX5'
              clear B8' KX5'
              rcases hsg with ⟨hs0, hs1⟩ | ⟨hs0, hs2, hs1⟩
              · have HNX : Shut (nextL (s.drop k) = none) := shut (by rw [hrv, hs1])
                have KX := KX5
                rw [hs0]
                clear hs1 hrv
                have hbd : (lexL s).2 = some k := by rw [HL.out, HST.out, HNX.out]
                go_wp2_with fail
                go_ret3
                exact HBAD.out k _ hbd (K1.trans KX (fun _ h _ => h))
              · have hcut := fun W => str_cut s (i := k) (n := signN (s.drop k)) (j := k + signN (s.drop k)) rfl hs2 W
                rw [hs1] at hrv
                have hnl := next_text (hrv)
                obtain ⟨T, hT⟩ : ∃ T, (s.drop k).take (signN (s.drop k)) = T := ⟨_, rfl⟩
                rw [hT] at hcut hrv
                obtain ⟨n, hn⟩ : ∃ n, signN (s.drop k) = n := ⟨_, rfl⟩
                rw [hn] at hcut hrv hs0 hs2 ⊢
                have HNX := shut hrv
                obtain ⟨e, he⟩ : ∃ e, k + n = e := ⟨_, rfl⟩
                rw [he] at hcut hs2
                have HE := shut he
                have p1 : (k : Int) + (n : Int) = (e : Int) := by omega
                have p2 : ((n : Int) == 0) = false := by rw [beq_eq_false_iff_ne]; omega
                have p3 : ¬ (n : Int) = 0 := by omega
                have a0 := blk_cell B8 0 (show (#[.int .i64 0, .string ⟨#[]⟩, .int .i64 (k : Int)] : Array Value)[0]? = some (.int .i64 0) from rfl)
                have a1 := blk_cell B8 1 (show (#[.int .i64 0, .string ⟨#[]⟩, .int .i64 (k : Int)] : Array Value)[1]? = some (.string ⟨#[]⟩) from rfl)
                have f0 := blk_free B8 0
                have f1 := blk_free B8 1
                have a2 := blk_cell B8 2 (show (#[.int .i64 0, .string ⟨#[]⟩, .int .i64 (k : Int)] : Array Value)[2]? = some (.int .i64 k) from rfl)
                have KX0 : Keeps Nothing wr ((w1.setCell ⟨g8, 1, none⟩ (.string ⟨T.toArray⟩)).setCell ⟨g8, 0, none⟩ (.int .i64 5)) := (KX5.setCell (fun h => absurd h (by have := HG8.out; show ¬ g8 < _; omega)) _).setCell (fun h => absurd h (by have := HG8.out; show ¬ g8 < _; omega)) _
                have KX := KX0
                clear hs1 hnl hT hn he hrv KX0 KX5 B8
                have he2 : e ≤ s.length := by have := HE.out; omega
                have O2 : OwnT ((w1.setCell ⟨g8, 1, none⟩ (.string ⟨T.toArray⟩)).setCell ⟨g8, 0, none⟩ (.int .i64 5)) ao cap ts := KX.own O1 (fun _ _ h => h)
                have KA := K1.trans KX (fun _ h _ => h)
                have hbl := fun W => rskip_any W s hs e he2
                have hsl := skipL_len (s.drop e)
                rw [List.length_drop] at hsl
                have hsuf2 : s.drop (s.length - (skipL (s.drop e)).length) = skipL (s.drop e) := skip_suffix s ((s.drop e).length + 1) (s.drop e) e rfl he2
                have hdd : (s.drop k).drop n = s.drop e := by rw [List.drop_drop, HE.out]
                obtain ⟨k2, hk2⟩ : ∃ k2, s.length - (skipL (s.drop e)).length = k2 := ⟨_, rfl⟩
                rw [hk2] at hbl hsuf2
                have hm1 : 1 ≤ n := (next_bd HNX.out).1
                have hk2a : k < k2 := by have := HE.out; omega
                have hk2b : k2 ≤ s.length := by omega
                have hL2 : lexL s = ((ts ++ [⟨5, T, k⟩]) ++ (lexF s.length (s.length - k2 + 1) (s.drop k2)).1, (lexF s.length (s.length - k2 + 1) (s.drop k2)).2) := by
                  rw [HL.out, HST.out, HNX.out]
                  dsimp only
                  rw [hdd, ← hsuf2]
                  rw [lexF_more s.length (s.length - k) (s.length - k2 + 1) (s.drop k2) (by rw [List.length_drop]; omega) (by rw [List.length_drop]; omega)]
                  simp
                have HL2 := shut hL2
                have hBt := blk_new ((w1.setCell ⟨g8, 1, none⟩ (.string ⟨T.toArray⟩)).setCell ⟨g8, 0, none⟩ (.int .i64 5)) #[.int .i64 5, .string ⟨T.toArray⟩, .int .i64 k] 29
                rw [show ((w1.setCell ⟨g8, 1, none⟩ (.string ⟨T.toArray⟩)).setCell ⟨g8, 0, none⟩ (.int .i64 5)).heap.size = w1.heap.size by simp only [World.size_setCell]] at hBt
                clear hL2 hsuf2 hk2 hdd HL HST HNX HBAD HEND hsl hm1
                go_wp2_with (at_builtin; refine wpList_appT _ rfl (.tmp 100) (.tmp 102) rfl ao cap ts rfl (World.ownsRow.alloc O2 _) w1.heap.size ⟨5, T, k⟩ rfl hBt (by omega) ?_)
                intro ao2 cap2 w2 o2 k2' m2'
                have K2 : Keeps Nothing w w2 := (KA.alloc _).trans k2' (fun i hi hlt => by have := HF.out i hi; omega)
                have h9 : ((w1.setCell ⟨g8, 1, none⟩ (.string ⟨T.toArray⟩)).setCell ⟨g8, 0, none⟩ (.int .i64 5)).heap.size = w1.heap.size := by simp only [World.size_setCell]
                have HF2 := shut (m2'.new (by have := KA.size; first | omega | (simp only [World.size_alloc]; omega)) HF.out)
                clear h9 k2' m2' hBt O1 O2 K1 KX KA 
                go_wp2_with fail
                refine (hbl w2).mono ?_
                rintro e3 w3 ⟨rfl, hw⟩
                subst w3
                go_wp2_with fail
                go_roundw
                case rel => exact ⟨ts ++ [⟨5, T, k⟩], ao2, cap2, k2, rfl, hk2b, by simp, o2, K2, HF2, by simp; omega, HL2⟩
                case measure => simp [intOf]; omega
      · have hkN : k = s.length := by omega
        have hd : s.drop k = [] := List.drop_of_length_le (by omega)
        have hfin : (ts ++ [⟨0, [], s.length⟩], none) = lexL s := by rw [HL.out, hd]; rfl
        have HFN := shut hfin
        have hBt := blk_new wr #[.int .i64 0, .string ⟨([] : List UInt8).toArray⟩, .int .i64 (s.length : Int)] 29
        clear hfin HL hd
        go_wp2_with (at_builtin; refine wpList_appT _ rfl (.tmp 107) (.tmp 111) rfl ao cap ts rfl (World.ownsRow.alloc O1 _) wr.heap.size ⟨0, [], s.length⟩ rfl hBt (by omega) ?_)
        intro ao2 cap2 w2 o2 k2' m2'
        have K2 : Keeps Nothing w w2 := (K1.alloc _).trans k2' (fun i hi hlt => by have := HF.out i hi; omega)
        go_wp2_with fail
        go_ret3
        exact HEND.out ts ao2 cap2 w2 o2 HFN.out K2

end Go.Proofs.Ytgnpklheohaghaa
