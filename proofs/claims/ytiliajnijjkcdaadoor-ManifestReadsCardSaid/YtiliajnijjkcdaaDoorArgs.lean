/- Arguments as data: slices and arrays of bytes. -/
import Derived.Test.YtiliajnijjkcdaaDoorBytes
import Derived.ProofKit
import Derived.OpenShut
import Derived.Deep.Slices
namespace Go.Proofs.YtiliajnijjkcdaaDoor
open Go.RowKit Go.ChangeShapes Go.WideShapes

section
variable {H : Type} {enc : TypeId × Value → H} {w : World} {base : Nat} {spare : Nat → Bool} {held : Bool}

theorem u8_of {n : Int} (h : (Lit.int .u8 n).wf = true) : Value.int .u8 n = byteV (UInt8.ofNat n.toNat) := by
  have hb := bounds_u8 h
  obtain ⟨m, rfl⟩ := Int.eq_ofNat_of_zero_le hb.1
  exact byteV_nat (by omega)

theorem take1 {α : Type} {l : List α} {k : Nat} {x : α} (h : (l.drop k).take 1 = [x]) : l.drop k = x :: l.drop (k + 1) := by
  cases hd : l.drop k with
  | nil => rw [hd] at h; simp at h
  | cons y r =>
    rw [hd] at h
    simp at h
    subst h
    rw [← List.tail_drop, hd]; rfl

/-- An array of bytes. -/
theorem trod_bytes {t e : TypeId} {m fuel : Nat} {cs : List Value} {x : DataW H × List MemPlace} (ht : Tryd.prog.underlying t = some (.array m e)) (he : Tryd.prog.underlying e = some (.int .u8)) (hc : Tryd.prog.cellsOf e = 1) (hm : Tryd.prog.cellsOf t = m)
    (h : DataW.trod enc Tryd.prog w base spare held fuel t cs = some x) : ∃ bs : List UInt8, bs.length = m ∧ cs = bs.map byteV := by
  obtain ⟨xs, n, rfl, rfl, hlen, hxs, hf⟩ := DataW.trod_array ht h
  rw [hm] at hlen
  refine ⟨cs.map fun v => match v with | .int _ z => UInt8.ofNat z.toNat | _ => 0, by simp [hlen], ?_⟩
  apply List.ext_getElem?
  intro i
  by_cases hi : i < m
  · have h1 := hf i hi
    rw [hc, Nat.mul_one, List.getElem?_eq_getElem (by omega)] at h1
    obtain ⟨z, hz, _, hw⟩ := DataW.trod_int he h1
    have hd := take1 hz
    have hcs : cs[i]? = some (.int .u8 z) := by
      have := congrArg (fun l => l[0]?) hd
      simpa using this
    simp only [List.getElem?_map, hcs, Option.map_some]
    rw [u8_of hw]
  · rw [List.getElem?_eq_none (by omega), List.getElem?_eq_none (by simp; omega)]

theorem cells8 : Tryd.prog.cellsOf 5 = 1 := by kernel_rfl

theorem open_bytes {fuel : Nat} {v : Value} {ao : Option Addr} {len cap : Nat} {x : DataW H × List MemPlace} (hv : v = .slice ao len cap) (h : DataW.trod enc Tryd.prog w base spare held fuel 59 v.cells.toList = some x) :
    ∃ bs : List UInt8, bs.length = len ∧ BytesAt w ao bs ∧ len ≤ cap ∧ cap ≤ maxLen := by
  subst hv
  rcases open_ints Tryd.underlying59 Tryd.underlying5 cells8 h with ⟨hcs, _⟩ | ⟨a, l, c, zs, hcs, _, hl, hm, hz, _, hcell, hwz⟩
  · simp [Value.cells] at hcs
    obtain ⟨rfl, rfl, rfl⟩ := hcs
    exact ⟨[], rfl, ⟨fun _ => rfl, fun a e => by simp at e⟩, Nat.le_refl _, Nat.zero_le _⟩
  · simp [Value.cells] at hcs
    obtain ⟨rfl, rfl, rfl⟩ := hcs
    have hlz : len ≤ zs.length := by rw [hz]; split <;> omega
    refine ⟨(zs.take len).map fun z => UInt8.ofNat z.toNat, by simp; omega, ⟨fun e => by simp at e, fun a' e j c hj => ?_⟩, hl, hm⟩
    obtain rfl := Option.some.inj e
    rw [List.getElem?_map, List.getElem?_take] at hj
    split at hj
    · rename_i hjl
      rw [List.getElem?_eq_getElem (by omega)] at hj
      obtain rfl := Option.some.inj hj
      rw [hcell j (by omega)]
      have hw := hwz _ (List.getElem_mem (show j < zs.length by omega))
      have := u8_of hw
      unfold byteV at this
      rw [← this]
      simp [List.getD, List.getElem?_eq_getElem (show j < zs.length by omega)]
    · cases hj

end
end Go.Proofs.YtiliajnijjkcdaaDoor
