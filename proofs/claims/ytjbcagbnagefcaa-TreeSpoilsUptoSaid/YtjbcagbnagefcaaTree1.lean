/- What lies at a block's cells, field by field. -/
import Derived.Test.YtjbcagbnagefcaaTree0
namespace Go.Proofs.Ytjbcagbnagefcaa
open Go.RowKit

theorem sub_of {w : World} {g o n : Nat} {cs : List Value} (hr : w.rangeAt g o cs) (hl : cs.length = n) : midOk w g o n = true ∧ midOf w g o n = cs.toArray := by
  have h2 := midOk_range hr
  have h3 := midOf_range hr
  rw [hl] at h2 h3
  exact ⟨h2, h3⟩
theorem rng_app {w : World} {g o : Nat} {xs ys : List Value} (h : w.rangeAt g o (xs ++ ys)) : w.rangeAt g o xs ∧ w.rangeAt g (o + xs.length) ys := by
  refine ⟨fun j v hj => h j v ?_, fun j v hj => ?_⟩
  · rw [List.getElem?_append_left (List.getElem?_eq_some_iff.1 hj).1]
    exact hj
  · rw [Nat.add_assoc]
    refine h (xs.length + j) v ?_
    rw [List.getElem?_append_right (by omega), Nat.add_sub_cancel_left]
    exact hj

theorem TyR {w : World} {g o : Nat} {v0 v1 v2 v3 : Value}  (hr : w.rangeAt g o ([v0, v1, v2, v3])) :
    w.cell? ⟨g, o, none⟩ = some v0 ∧ w.cell? ⟨g, o + 1, none⟩ = some v1 ∧ w.cell? ⟨g, o + 2, none⟩ = some v2 ∧ w.cell? ⟨g, o + 3, none⟩ = some v3 := by
  have q0 := hr
  exact ⟨q0 0 _ rfl, q0 1 _ rfl, q0 2 _ rfl, q0 3 _ rfl⟩
theorem TyB {w : World} {g : Nat} {T : TypeId} {v0 v1 v2 v3 : Value}  {C : Array Value} (hC : C = ([v0, v1, v2, v3]).toArray) (hb : Blk w g C T) :
    w.cell? ⟨g, 0, none⟩ = some v0 ∧ w.cell? ⟨g, 1, none⟩ = some v1 ∧ w.cell? ⟨g, 2, none⟩ = some v2 ∧ w.cell? ⟨g, 3, none⟩ = some v3 := by
  subst hC
  have h := TyR  (rangeAt_blk hb)
  simpa only [Nat.zero_add] using h

theorem PlR {w : World} {g o : Nat} {v0 v1 : Value}  (hr : w.rangeAt g o ([v0, v1])) :
    w.cell? ⟨g, o, none⟩ = some v0 ∧ w.cell? ⟨g, o + 1, none⟩ = some v1 := by
  have q0 := hr
  exact ⟨q0 0 _ rfl, q0 1 _ rfl⟩
theorem PlB {w : World} {g : Nat} {T : TypeId} {v0 v1 : Value}  {C : Array Value} (hC : C = ([v0, v1]).toArray) (hb : Blk w g C T) :
    w.cell? ⟨g, 0, none⟩ = some v0 ∧ w.cell? ⟨g, 1, none⟩ = some v1 := by
  subst hC
  have h := PlR  (rangeAt_blk hb)
  simpa only [Nat.zero_add] using h

theorem OprR {w : World} {g o : Nat} {v0 v1 : Value} {s2 : List Value} (hl2 : s2.length = 2) (hr : w.rangeAt g o ([v0, v1] ++ s2)) :
    w.cell? ⟨g, o, none⟩ = some v0 ∧ w.cell? ⟨g, o + 1, none⟩ = some v1 ∧ (midOk w g (o + 2) 2 = true ∧ midOf w g (o + 2) 2 = s2.toArray) := by
  have q2 : w.rangeAt g (o + 2) s2 := by
    have h := (rng_app hr).2
    rwa [show ([v0, v1]).length = 2 by simp] at h
  have hr := (rng_app hr).1
  have q0 := hr
  exact ⟨q0 0 _ rfl, q0 1 _ rfl, sub_of q2 hl2⟩
theorem OprB {w : World} {g : Nat} {T : TypeId} {v0 v1 : Value} {s2 : List Value} (hl2 : s2.length = 2) {C : Array Value} (hC : C = ([v0, v1] ++ s2).toArray) (hb : Blk w g C T) :
    w.cell? ⟨g, 0, none⟩ = some v0 ∧ w.cell? ⟨g, 1, none⟩ = some v1 ∧ (midOk w g (2) 2 = true ∧ midOf w g (2) 2 = s2.toArray) := by
  subst hC
  have h := OprR hl2 (rangeAt_blk hb)
  simpa only [Nat.zero_add] using h

theorem ValR {w : World} {g o : Nat} {v0 v9 v12 v13 v14 : Value} {s1 : List Value} (hl1 : s1.length = 4) {s5 : List Value} (hl5 : s5.length = 4) {s10 : List Value} (hl10 : s10.length = 2) (hr : w.rangeAt g o ([v0] ++ s1 ++ s5 ++ [v9] ++ s10 ++ [v12, v13, v14])) :
    w.cell? ⟨g, o, none⟩ = some v0 ∧ (midOk w g (o + 1) 4 = true ∧ midOf w g (o + 1) 4 = s1.toArray) ∧ (midOk w g (o + 5) 4 = true ∧ midOf w g (o + 5) 4 = s5.toArray) ∧ w.cell? ⟨g, o + 9, none⟩ = some v9 ∧ (midOk w g (o + 10) 2 = true ∧ midOf w g (o + 10) 2 = s10.toArray) ∧ w.cell? ⟨g, o + 12, none⟩ = some v12 ∧ w.cell? ⟨g, o + 13, none⟩ = some v13 ∧ w.cell? ⟨g, o + 14, none⟩ = some v14 := by
  have q12 : w.rangeAt g (o + 12) [v12, v13, v14] := by
    have h := (rng_app hr).2
    rwa [show ([v0] ++ s1 ++ s5 ++ [v9] ++ s10).length = 12 by simp [hl1, hl5, hl10]] at h
  have hr := (rng_app hr).1
  have q10 : w.rangeAt g (o + 10) s10 := by
    have h := (rng_app hr).2
    rwa [show ([v0] ++ s1 ++ s5 ++ [v9]).length = 10 by simp [hl1, hl5]] at h
  have hr := (rng_app hr).1
  have q9 : w.rangeAt g (o + 9) [v9] := by
    have h := (rng_app hr).2
    rwa [show ([v0] ++ s1 ++ s5).length = 9 by simp [hl1, hl5]] at h
  have hr := (rng_app hr).1
  have q5 : w.rangeAt g (o + 5) s5 := by
    have h := (rng_app hr).2
    rwa [show ([v0] ++ s1).length = 5 by simp [hl1]] at h
  have hr := (rng_app hr).1
  have q1 : w.rangeAt g (o + 1) s1 := by
    have h := (rng_app hr).2
    rwa [show ([v0]).length = 1 by simp] at h
  have hr := (rng_app hr).1
  have q0 := hr
  exact ⟨q0 0 _ rfl, sub_of q1 hl1, sub_of q5 hl5, q9 0 _ rfl, sub_of q10 hl10, q12 0 _ rfl, q12 1 _ rfl, q12 2 _ rfl⟩
theorem ValB {w : World} {g : Nat} {T : TypeId} {v0 v9 v12 v13 v14 : Value} {s1 : List Value} (hl1 : s1.length = 4) {s5 : List Value} (hl5 : s5.length = 4) {s10 : List Value} (hl10 : s10.length = 2) {C : Array Value} (hC : C = ([v0] ++ s1 ++ s5 ++ [v9] ++ s10 ++ [v12, v13, v14]).toArray) (hb : Blk w g C T) :
    w.cell? ⟨g, 0, none⟩ = some v0 ∧ (midOk w g (1) 4 = true ∧ midOf w g (1) 4 = s1.toArray) ∧ (midOk w g (5) 4 = true ∧ midOf w g (5) 4 = s5.toArray) ∧ w.cell? ⟨g, 9, none⟩ = some v9 ∧ (midOk w g (10) 2 = true ∧ midOf w g (10) 2 = s10.toArray) ∧ w.cell? ⟨g, 12, none⟩ = some v12 ∧ w.cell? ⟨g, 13, none⟩ = some v13 ∧ w.cell? ⟨g, 14, none⟩ = some v14 := by
  subst hC
  have h := ValR hl1 hl5 hl10 (rangeAt_blk hb)
  simpa only [Nat.zero_add] using h

theorem StR {w : World} {g o : Nat} {v0 v1 v2 v3 v8 v30 v31 : Value} {s4 : List Value} (hl4 : s4.length = 4) {s9 : List Value} (hl9 : s9.length = 2) {s11 : List Value} (hl11 : s11.length = 15) {s26 : List Value} (hl26 : s26.length = 4) (hr : w.rangeAt g o ([v0, v1, v2, v3] ++ s4 ++ [v8] ++ s9 ++ s11 ++ s26 ++ [v30, v31])) :
    w.cell? ⟨g, o, none⟩ = some v0 ∧ w.cell? ⟨g, o + 1, none⟩ = some v1 ∧ w.cell? ⟨g, o + 2, none⟩ = some v2 ∧ w.cell? ⟨g, o + 3, none⟩ = some v3 ∧ (midOk w g (o + 4) 4 = true ∧ midOf w g (o + 4) 4 = s4.toArray) ∧ w.cell? ⟨g, o + 8, none⟩ = some v8 ∧ (midOk w g (o + 9) 2 = true ∧ midOf w g (o + 9) 2 = s9.toArray) ∧ (midOk w g (o + 11) 15 = true ∧ midOf w g (o + 11) 15 = s11.toArray) ∧ (midOk w g (o + 26) 4 = true ∧ midOf w g (o + 26) 4 = s26.toArray) ∧ w.cell? ⟨g, o + 30, none⟩ = some v30 ∧ w.cell? ⟨g, o + 31, none⟩ = some v31 := by
  have q30 : w.rangeAt g (o + 30) [v30, v31] := by
    have h := (rng_app hr).2
    rwa [show ([v0, v1, v2, v3] ++ s4 ++ [v8] ++ s9 ++ s11 ++ s26).length = 30 by simp [hl4, hl9, hl11, hl26]] at h
  have hr := (rng_app hr).1
  have q26 : w.rangeAt g (o + 26) s26 := by
    have h := (rng_app hr).2
    rwa [show ([v0, v1, v2, v3] ++ s4 ++ [v8] ++ s9 ++ s11).length = 26 by simp [hl4, hl9, hl11]] at h
  have hr := (rng_app hr).1
  have q11 : w.rangeAt g (o + 11) s11 := by
    have h := (rng_app hr).2
    rwa [show ([v0, v1, v2, v3] ++ s4 ++ [v8] ++ s9).length = 11 by simp [hl4, hl9]] at h
  have hr := (rng_app hr).1
  have q9 : w.rangeAt g (o + 9) s9 := by
    have h := (rng_app hr).2
    rwa [show ([v0, v1, v2, v3] ++ s4 ++ [v8]).length = 9 by simp [hl4]] at h
  have hr := (rng_app hr).1
  have q8 : w.rangeAt g (o + 8) [v8] := by
    have h := (rng_app hr).2
    rwa [show ([v0, v1, v2, v3] ++ s4).length = 8 by simp [hl4]] at h
  have hr := (rng_app hr).1
  have q4 : w.rangeAt g (o + 4) s4 := by
    have h := (rng_app hr).2
    rwa [show ([v0, v1, v2, v3]).length = 4 by simp] at h
  have hr := (rng_app hr).1
  have q0 := hr
  exact ⟨q0 0 _ rfl, q0 1 _ rfl, q0 2 _ rfl, q0 3 _ rfl, sub_of q4 hl4, q8 0 _ rfl, sub_of q9 hl9, sub_of q11 hl11, sub_of q26 hl26, q30 0 _ rfl, q30 1 _ rfl⟩
theorem StB {w : World} {g : Nat} {T : TypeId} {v0 v1 v2 v3 v8 v30 v31 : Value} {s4 : List Value} (hl4 : s4.length = 4) {s9 : List Value} (hl9 : s9.length = 2) {s11 : List Value} (hl11 : s11.length = 15) {s26 : List Value} (hl26 : s26.length = 4) {C : Array Value} (hC : C = ([v0, v1, v2, v3] ++ s4 ++ [v8] ++ s9 ++ s11 ++ s26 ++ [v30, v31]).toArray) (hb : Blk w g C T) :
    w.cell? ⟨g, 0, none⟩ = some v0 ∧ w.cell? ⟨g, 1, none⟩ = some v1 ∧ w.cell? ⟨g, 2, none⟩ = some v2 ∧ w.cell? ⟨g, 3, none⟩ = some v3 ∧ (midOk w g (4) 4 = true ∧ midOf w g (4) 4 = s4.toArray) ∧ w.cell? ⟨g, 8, none⟩ = some v8 ∧ (midOk w g (9) 2 = true ∧ midOf w g (9) 2 = s9.toArray) ∧ (midOk w g (11) 15 = true ∧ midOf w g (11) 15 = s11.toArray) ∧ (midOk w g (26) 4 = true ∧ midOf w g (26) 4 = s26.toArray) ∧ w.cell? ⟨g, 30, none⟩ = some v30 ∧ w.cell? ⟨g, 31, none⟩ = some v31 := by
  subst hC
  have h := StR hl4 hl9 hl11 hl26 (rangeAt_blk hb)
  simpa only [Nat.zero_add] using h

theorem FldR {w : World} {g o : Nat} {v0 v1 : Value} {s2 : List Value} (hl2 : s2.length = 4) (hr : w.rangeAt g o ([v0, v1] ++ s2)) :
    w.cell? ⟨g, o, none⟩ = some v0 ∧ w.cell? ⟨g, o + 1, none⟩ = some v1 ∧ (midOk w g (o + 2) 4 = true ∧ midOf w g (o + 2) 4 = s2.toArray) := by
  have q2 : w.rangeAt g (o + 2) s2 := by
    have h := (rng_app hr).2
    rwa [show ([v0, v1]).length = 2 by simp] at h
  have hr := (rng_app hr).1
  have q0 := hr
  exact ⟨q0 0 _ rfl, q0 1 _ rfl, sub_of q2 hl2⟩
theorem FldB {w : World} {g : Nat} {T : TypeId} {v0 v1 : Value} {s2 : List Value} (hl2 : s2.length = 4) {C : Array Value} (hC : C = ([v0, v1] ++ s2).toArray) (hb : Blk w g C T) :
    w.cell? ⟨g, 0, none⟩ = some v0 ∧ w.cell? ⟨g, 1, none⟩ = some v1 ∧ (midOk w g (2) 4 = true ∧ midOf w g (2) 4 = s2.toArray) := by
  subst hC
  have h := FldR hl2 (rangeAt_blk hb)
  simpa only [Nat.zero_add] using h

theorem StrR {w : World} {g o : Nat} {v0 v1 v2 v3 v4 : Value}  (hr : w.rangeAt g o ([v0, v1, v2, v3, v4])) :
    w.cell? ⟨g, o, none⟩ = some v0 ∧ w.cell? ⟨g, o + 1, none⟩ = some v1 ∧ w.cell? ⟨g, o + 2, none⟩ = some v2 ∧ w.cell? ⟨g, o + 3, none⟩ = some v3 ∧ w.cell? ⟨g, o + 4, none⟩ = some v4 := by
  have q0 := hr
  exact ⟨q0 0 _ rfl, q0 1 _ rfl, q0 2 _ rfl, q0 3 _ rfl, q0 4 _ rfl⟩
theorem StrB {w : World} {g : Nat} {T : TypeId} {v0 v1 v2 v3 v4 : Value}  {C : Array Value} (hC : C = ([v0, v1, v2, v3, v4]).toArray) (hb : Blk w g C T) :
    w.cell? ⟨g, 0, none⟩ = some v0 ∧ w.cell? ⟨g, 1, none⟩ = some v1 ∧ w.cell? ⟨g, 2, none⟩ = some v2 ∧ w.cell? ⟨g, 3, none⟩ = some v3 ∧ w.cell? ⟨g, 4, none⟩ = some v4 := by
  subst hC
  have h := StrR  (rangeAt_blk hb)
  simpa only [Nat.zero_add] using h

theorem LifR {w : World} {g o : Nat} {v0 v1 : Value}  (hr : w.rangeAt g o ([v0, v1])) :
    w.cell? ⟨g, o, none⟩ = some v0 ∧ w.cell? ⟨g, o + 1, none⟩ = some v1 := by
  have q0 := hr
  exact ⟨q0 0 _ rfl, q0 1 _ rfl⟩
theorem LifB {w : World} {g : Nat} {T : TypeId} {v0 v1 : Value}  {C : Array Value} (hC : C = ([v0, v1]).toArray) (hb : Blk w g C T) :
    w.cell? ⟨g, 0, none⟩ = some v0 ∧ w.cell? ⟨g, 1, none⟩ = some v1 := by
  subst hC
  have h := LifR  (rangeAt_blk hb)
  simpa only [Nat.zero_add] using h

theorem FunR {w : World} {g o : Nat} {v0 v1 v2 v3 v8 v9 : Value} {s4 : List Value} (hl4 : s4.length = 4) (hr : w.rangeAt g o ([v0, v1, v2, v3] ++ s4 ++ [v8, v9])) :
    w.cell? ⟨g, o, none⟩ = some v0 ∧ w.cell? ⟨g, o + 1, none⟩ = some v1 ∧ w.cell? ⟨g, o + 2, none⟩ = some v2 ∧ w.cell? ⟨g, o + 3, none⟩ = some v3 ∧ (midOk w g (o + 4) 4 = true ∧ midOf w g (o + 4) 4 = s4.toArray) ∧ w.cell? ⟨g, o + 8, none⟩ = some v8 ∧ w.cell? ⟨g, o + 9, none⟩ = some v9 := by
  have q8 : w.rangeAt g (o + 8) [v8, v9] := by
    have h := (rng_app hr).2
    rwa [show ([v0, v1, v2, v3] ++ s4).length = 8 by simp [hl4]] at h
  have hr := (rng_app hr).1
  have q4 : w.rangeAt g (o + 4) s4 := by
    have h := (rng_app hr).2
    rwa [show ([v0, v1, v2, v3]).length = 4 by simp] at h
  have hr := (rng_app hr).1
  have q0 := hr
  exact ⟨q0 0 _ rfl, q0 1 _ rfl, q0 2 _ rfl, q0 3 _ rfl, sub_of q4 hl4, q8 0 _ rfl, q8 1 _ rfl⟩
theorem FunB {w : World} {g : Nat} {T : TypeId} {v0 v1 v2 v3 v8 v9 : Value} {s4 : List Value} (hl4 : s4.length = 4) {C : Array Value} (hC : C = ([v0, v1, v2, v3] ++ s4 ++ [v8, v9]).toArray) (hb : Blk w g C T) :
    w.cell? ⟨g, 0, none⟩ = some v0 ∧ w.cell? ⟨g, 1, none⟩ = some v1 ∧ w.cell? ⟨g, 2, none⟩ = some v2 ∧ w.cell? ⟨g, 3, none⟩ = some v3 ∧ (midOk w g (4) 4 = true ∧ midOf w g (4) 4 = s4.toArray) ∧ w.cell? ⟨g, 8, none⟩ = some v8 ∧ w.cell? ⟨g, 9, none⟩ = some v9 := by
  subst hC
  have h := FunR hl4 (rangeAt_blk hb)
  simpa only [Nat.zero_add] using h

theorem CrR {w : World} {g o : Nat} {v0 v1 : Value}  (hr : w.rangeAt g o ([v0, v1])) :
    w.cell? ⟨g, o, none⟩ = some v0 ∧ w.cell? ⟨g, o + 1, none⟩ = some v1 := by
  have q0 := hr
  exact ⟨q0 0 _ rfl, q0 1 _ rfl⟩
theorem CrB {w : World} {g : Nat} {T : TypeId} {v0 v1 : Value}  {C : Array Value} (hC : C = ([v0, v1]).toArray) (hb : Blk w g C T) :
    w.cell? ⟨g, 0, none⟩ = some v0 ∧ w.cell? ⟨g, 1, none⟩ = some v1 := by
  subst hC
  have h := CrR  (rangeAt_blk hb)
  simpa only [Nat.zero_add] using h

end Go.Proofs.Ytjbcagbnagefcaa
