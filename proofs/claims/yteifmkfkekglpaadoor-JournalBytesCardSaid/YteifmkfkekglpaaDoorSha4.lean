/- SHA-256 as a plain function; sha.words, usufructref3.words. -/
import Derived.Test.YteifmkfkekglpaaDoorSha3
namespace Go.Proofs.YteifmkfkekglpaaDoor
open Go.RowKit

def kWords : List Nat := [1116352408, 1899447441, 3049323471, 3921009573, 961987163, 1508970993, 2453635748, 2870763221, 3624381080, 310598401, 607225278, 1426881987, 1925078388, 2162078206, 2614888103, 3248222580, 3835390401, 4022224774, 264347078, 604807628, 770255983, 1249150122, 1555081692, 1996064986, 2554220882, 2821834349, 2952996808, 3210313671, 3336571891, 3584528711, 113926993, 338241895, 666307205, 773529912, 1294757372, 1396182291, 1695183700, 1986661051, 2177026350, 2456956037, 2730485921, 2820302411, 3259730800, 3345764771, 3516065817, 3600352804, 4094571909, 275423344, 430227734, 506948616, 659060556, 883997877, 958139571, 1322822218, 1537002063, 1747873779, 1955562222, 2024104815, 2227730452, 2361852424, 2428436474, 2756734187, 3204031479, 3329325298]
def ivSt : St := ⟨1779033703, 3144134277, 1013904242, 2773480762, 1359893119, 2600822924, 528734635, 1541459225⟩
def absorbG (f : List UInt8 → St → St) : Nat → List UInt8 → St → St
  | 0, _, s => s
  | n + 1, l, s => absorbG f n (l.drop 64) (f (l.take 64) s)
theorem absorbG_zero (f : List UInt8 → St → St) (l : List UInt8) (s : St) : absorbG f 0 l s = s := rfl
theorem absorbG_step (f : List UInt8 → St → St) (n : Nat) (l : List UInt8) (s : St) : absorbG f (n + 1) l s = absorbG f n (l.drop 64) (f (l.take 64) s) := rfl
def absorb (n : Nat) (l : List UInt8) (s : St) : St := absorbG (blockOf64 kWords) n l s
theorem absorb_zero (l : List UInt8) (s : St) : absorb 0 l s = s := absorbG_zero _ l s
theorem absorb_step (n : Nat) (l : List UInt8) (s : St) : absorb (n + 1) l s = absorb n (l.drop 64) (blockOf64 kWords (l.take 64) s) := absorbG_step _ n l s
attribute [irreducible] absorb
/-- A number as eight bytes, the highest first. -/
def be8 (x : Nat) : List UInt8 := (List.range 8).map fun i => UInt8.ofNat (x >>> (56 - 8 * i) % 256)
def padZ (n : Nat) : Nat := (119 - n % 64) % 64
def padOf (n : Nat) : List UInt8 := 128 :: (List.replicate (padZ n) 0 ++ be8 (n * 8))
def outOf (s : St) : List UInt8 := (List.range 32).map fun i => UInt8.ofNat (at0 s.list (i / 4) >>> (24 - 8 * (i % 4)) % 256)
def shaOf (bs : List UInt8) : List UInt8 := outOf (absorb ((bs ++ padOf bs.length).length / 64) (bs ++ padOf bs.length) ivSt)

theorem kWords_len : kWords.length = 64 := rfl
theorem kWords_lt (i : Nat) : at0 kWords i < 4294967296 := by
  have h : ∀ x ∈ kWords, x < 4294967296 := by decide +kernel
  unfold at0 List.getD
  cases hx : kWords[i]? with
  | none => show (0 : Nat) < 4294967296; decide
  | some x => exact h x (List.mem_of_getElem? hx)
theorem ivSt_ok : ivSt.Ok := by unfold St.Ok ivSt; decide +kernel
set_option maxRecDepth 100000 in
theorem kWords_row : rowW 64 kWords = #[.int .u32 1116352408, .int .u32 1899447441, .int .u32 3049323471, .int .u32 3921009573, .int .u32 961987163, .int .u32 1508970993, .int .u32 2453635748, .int .u32 2870763221, .int .u32 3624381080, .int .u32 310598401, .int .u32 607225278, .int .u32 1426881987, .int .u32 1925078388, .int .u32 2162078206, .int .u32 2614888103, .int .u32 3248222580, .int .u32 3835390401, .int .u32 4022224774, .int .u32 264347078, .int .u32 604807628, .int .u32 770255983, .int .u32 1249150122, .int .u32 1555081692, .int .u32 1996064986, .int .u32 2554220882, .int .u32 2821834349, .int .u32 2952996808, .int .u32 3210313671, .int .u32 3336571891, .int .u32 3584528711, .int .u32 113926993, .int .u32 338241895, .int .u32 666307205, .int .u32 773529912, .int .u32 1294757372, .int .u32 1396182291, .int .u32 1695183700, .int .u32 1986661051, .int .u32 2177026350, .int .u32 2456956037, .int .u32 2730485921, .int .u32 2820302411, .int .u32 3259730800, .int .u32 3345764771, .int .u32 3516065817, .int .u32 3600352804, .int .u32 4094571909, .int .u32 275423344, .int .u32 430227734, .int .u32 506948616, .int .u32 659060556, .int .u32 883997877, .int .u32 958139571, .int .u32 1322822218, .int .u32 1537002063, .int .u32 1747873779, .int .u32 1955562222, .int .u32 2024104815, .int .u32 2227730452, .int .u32 2361852424, .int .u32 2428436474, .int .u32 2756734187, .int .u32 3204031479, .int .u32 3329325298] := rfl

/-- An array of the sixty-four words, and nothing that was there has turned. -/
def SaysWords (w : World) (e : Ending) (w' : World) : Prop := e = .returned (.agg (rowW 64 kWords)) ∧ Keeps Nothing w w'

theorem aggOk_k : aggOk 64 (.agg (rowW 64 kWords)) = true := aggOk_agg 64 _ (rowW_size (by decide)) (rowW_one _ _)

attribute [local go_sem ↓] exec_load_w64 exec_store_w64
attribute [local go_sem] rowOk_new World.setRow_alloc_new

set_option maxRecDepth 100000 in
set_option maxHeartbeats 400000 in
theorem words_any (w : World) : Calls Tryd.prog 57 #[] w (SaysWords w) := by
  have hk := aggOk_k
  rw [kWords_row] at hk
  go_enter Tryd.func57, Tryd.ntmps57
  go_wp2_with fail
  rw [← kWords_row]
  refine bodyPost_ret (v := .agg (rowW 64 kWords)) (results_cell_row rfl _ _ w.heap.size _ (rowW 64 kWords) (0, 0) _ rfl (blk_new w _ _) Tryd.underlying97 rfl (by rw [infoW64, rowW_size (by decide)])) rfl ?_
  exact ⟨rfl, (Keeps.refl _ _).alloc _⟩

set_option maxRecDepth 100000 in
set_option maxHeartbeats 400000 in
theorem rwords_any (w : World) : Calls Tryd.prog 49 #[] w (SaysWords w) := by
  have hk := aggOk_k
  rw [kWords_row] at hk
  go_enter Tryd.func49, Tryd.ntmps49
  go_wp2_with fail
  rw [← kWords_row]
  refine bodyPost_ret (v := .agg (rowW 64 kWords)) (results_cell_row rfl _ _ w.heap.size _ (rowW 64 kWords) (0, 0) _ rfl (blk_new w _ _) Tryd.underlying97 rfl (by rw [infoW64, rowW_size (by decide)])) rfl ?_
  exact ⟨rfl, (Keeps.refl _ _).alloc _⟩

end Go.Proofs.YteifmkfkekglpaaDoor
