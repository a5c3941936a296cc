/- Arguments as data: slices and arrays of bytes. -/
import Derived.Test.YtjbcagbnagefcaaBytes
import Derived.ProofKit
import Derived.OpenShut
import Derived.Deep.Slices
namespace Go.Proofs.Ytjbcagbnagefcaa
open Go.RowKit Go.ChangeShapes Go.WideShapes

section
variable {H : Type} {enc : TypeId × Value → H} {w : World} {base : Nat} {spare : Nat → Bool} {held : Bool}

theorem u8_of {n : Int} (h : (Lit.int .u8 n).wf = true) : Value.int .u8 n = byteV (UInt8.ofNat n.toNat) := by
  have hb := bounds_u8 h
  obtain ⟨m, rfl⟩ := Int.eq_ofNat_of_zero_le hb.1
  exact byteV_nat (by omega)

theorem take1 {α : Type} {l : List α} {k : Nat} {x : α} (h : (l.drop k).take 1 = [x]) : l.drop k = x :: l.drop (k + 1) := by
  cases hd : l.drop k with
  | nil => rw [hd] at h; simp at h
  | cons y r =>
    rw [hd] at h
    simp at h
    subst h
    rw [← List.tail_drop, hd]; rfl

/-- An array of bytes. -/
theorem trod_bytes {t e : TypeId} {m fuel : Nat} {cs : List Value} {x : DataW H × List MemPlace} (ht : Try.prog.underlying t = some (.array m e)) (he : Try.prog.underlying e = some (.int .u8)) (hc : Try.prog.cellsOf e = 1) (hm : Try.prog.cellsOf t = m)
    (h : DataW.trod enc Try.prog w base spare held fuel t cs = some x) : ∃ bs : List UInt8, bs.length = m ∧ cs = bs.map byteV := by
  obtain ⟨xs, n, rfl, rfl, hlen, hxs, hf⟩ := DataW.trod_array ht h
  rw [hm] at hlen
  refine ⟨cs.map fun v => match v with | .int _ z => UInt8.ofNat z.toNat | _ => 0, by simp [hlen], ?_⟩
  apply List.ext_getElem?
  intro i
  by_cases hi : i < m
  · have h1 := hf i hi
    rw [hc, Nat.mul_one, List.getElem?_eq_getElem (by omega)] at h1
    obtain ⟨z, hz, _, hw⟩ := DataW.trod_int he h1
    have hd := take1 hz
    have hcs : cs[i]? = some (.int .u8 z) := by
      have := congrArg (fun l => l[0]?) hd
      simpa using this
    simp only [List.getElem?_map, hcs, Option.map_some]
    rw [u8_of hw]
  · rw [List.getElem?_eq_none (by omega), List.getElem?_eq_none (by simp; omega)]

theorem cells8 : Try.prog.cellsOf 5 = 1 := by kernel_rfl

end
end Go.Proofs.Ytjbcagbnagefcaa
