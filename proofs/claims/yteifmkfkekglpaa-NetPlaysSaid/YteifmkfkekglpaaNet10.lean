/- Get of Put is the message (plain). -/
import Derived.Test.YteifmkfkekglpaaNet6
import Derived.Test.YteifmkfkekglpaaBack2
namespace Go.Proofs.Yteifmkfkekglpaa
open Go.RowKit

section
variable {A : Type}
theorem drop_at {bs : List UInt8} {k : Nat} {a rest : List UInt8} (h : bs.drop k = a ++ rest) : bs.drop (k + a.length) = rest := by
  rw [← List.drop_drop, h, List.drop_left]
theorem gI_enc {bs : List UInt8} (R : Int → Nat → Option A) {k : Nat} {x : Int} {rest : List UInt8} (h : bs.drop k = encI x ++ rest) (h0 : -9223372036854775808 ≤ x) (h1 : x < 9223372036854775808) : gI bs R k = R x (k + (encI x).length) := by
  unfold gI
  rw [h, decI_enc x h0 h1]
  rfl
theorem gT_enc {bs : List UInt8} (most : Int) (R : List UInt8 → Nat → Option A) {k : Nat} {s rest : List UInt8} (h : bs.drop k = encS s ++ rest) (h0 : (s.length : Int) ≤ most) (h1 : most < 9223372036854775808) : gT bs most R k = R s (k + (encS s).length) := by
  unfold gT
  rw [h, decText_enc s most (by omega) h0]
  rfl
theorem gH_enc {bs : List UInt8} (R : List UInt8 → Nat → Option A) {k : Nat} {s rest : List UInt8} (h : bs.drop k = s ++ rest) (h0 : s.length = 32) : gH bs R k = R s (k + s.length) := by
  unfold gH
  rw [h, decHash_enc s h0, h0]
  rfl
theorem gN_enc {bs : List UInt8} (most : Int) (R : Nat → Nat → Option A) {k : Nat} {n : Nat} {rest : List UInt8} (h : bs.drop k = encU n ++ rest) (h0 : (n : Int) ≤ most) (h1 : most < 9223372036854775808) : gN bs most R k = R n (k + (encU n).length) := by
  unfold gN decSmall
  rw [h, decU_enc n (by omega)]
  simp only [ne_eq, not_true_eq_false, if_false]
  have : ¬ (most < 0 ∨ most < (n : Int)) := by omega
  rw [if_neg this]
  rfl
theorem gHs_enc {bs : List UInt8} (R : List (List UInt8) → Nat → Option A) : ∀ (hs acc : List (List UInt8)) (k : Nat) (rest : List UInt8), (∀ h ∈ hs, h.length = 32) → bs.drop k = hs.flatten ++ rest → gHs bs R hs.length acc k = R (acc ++ hs) (k + hs.flatten.length) := by
  intro hs
  induction hs with
  | nil => intro acc k rest _ _; simp [gHs]
  | cons x l ih =>
    intro acc k rest h32 h
    rw [List.flatten_cons, List.append_assoc] at h
    have h2 := drop_at h
    rw [List.length_cons]
    show gH bs (fun h => gHs bs R l.length (acc ++ [h])) k = _
    rw [gH_enc _ h (h32 x (by simp)), ih (acc ++ [x]) _ rest (fun y hy => h32 y (by simp [hy])) h2, List.flatten_cons, List.length_append, List.append_assoc, Nat.add_assoc]
    rfl
end
theorem parse_put {m : MsgT} (hy : mayP m) (h32 : m.hash.length = 32) (hh : ∀ h ∈ m.hashes, h.length = 32) : parseM (encMsg m) = some m := by
  obtain ⟨kd, fr, tt, cr, ep, nm, hs, hl, bl, sg⟩ := m
  unfold mayP at hy
  simp only at hy h32 hh
  obtain ⟨y1, y2, ⟨y3, y4⟩, ⟨y5, y6⟩, _, _, y7, y8, y9, y10, y11, y12, y13, y14⟩ := hy
  obtain ⟨bs, hbs⟩ : ∃ bs, encMsg ⟨kd, fr, tt, cr, ep, nm, hs, hl, bl, sg⟩ = bs := ⟨_, rfl⟩
  have e0 : bs.drop 0 = encI kd ++ (encI fr ++ (encI tt ++ (encI cr ++ (encI ep ++ (encS nm ++ (hs ++ (encU hl.length ++ (hl.flatten ++ (encS bl ++ (encS sg ++ [])))))))))) := by
    rw [← hbs]; unfold encMsg; simp [List.append_assoc]
  rw [hbs]
  clear hbs
  unfold parseM
  rw [gI_enc _ e0 (by omega) (by omega)]
  have e1 := drop_at e0
  generalize 0 + (encI kd).length = k1 at *
  unfold r1
  rw [gI_enc _ e1 (by omega) (by omega)]
  have e2 := drop_at e1
  generalize k1 + (encI fr).length = k2 at *
  unfold r2
  rw [gI_enc _ e2 (by omega) (by omega)]
  have e3 := drop_at e2
  generalize k2 + (encI tt).length = k3 at *
  unfold r3
  rw [gI_enc _ e3 (by omega) (by omega)]
  have e4 := drop_at e3
  generalize k3 + (encI cr).length = k4 at *
  unfold r4
  rw [gI_enc _ e4 (by omega) (by omega)]
  have e5 := drop_at e4
  generalize k4 + (encI ep).length = k5 at *
  unfold r5
  rw [gT_enc 32 _ e5 (by omega) (by omega)]
  have e6 := drop_at e5
  generalize k5 + (encS nm).length = k6 at *
  unfold r5h
  rw [gH_enc _ e6 h32]
  have e7 := drop_at e6
  generalize k6 + hs.length = k7 at *
  unfold r6
  rw [gN_enc 64 _ e7 (by omega) (by omega)]
  have e8 := drop_at e7
  generalize k7 + (encU hl.length).length = k8 at *
  unfold r7
  rw [gHs_enc _ hl [] _ _ hh e8]
  have e9 := drop_at e8
  generalize k8 + hl.flatten.length = k9 at *
  rw [List.nil_append]
  unfold r8
  rw [gT_enc 4194304 _ e9 (by omega) (by omega)]
  have e10 := drop_at e9
  generalize k9 + (encS bl).length = k10 at *
  unfold r9
  rw [gT_enc 4194304 _ e10 (by omega) (by omega)]
  rfl
theorem get_put {m : MsgT} (hy : mayP m) (h32 : m.hash.length = 32) (hh : ∀ h ∈ m.hashes, h.length = 32) : getM (encMsg m) = some m := by
  unfold getM
  rw [parse_put hy h32 hh, Option.bind_some, if_pos ⟨hy, rfl⟩]
theorem getM_some {bs : List UInt8} {m : MsgT} (h : getM bs = some m) : mayP m ∧ encMsg m = bs := by
  unfold getM at h
  cases hp : parseM bs with
  | none => rw [hp] at h; cases h
  | some m' =>
    rw [hp, Option.bind_some] at h
    split at h
    · rename_i h2
      obtain rfl := Option.some.inj h
      exact h2
    · cases h

end Go.Proofs.Yteifmkfkekglpaa
