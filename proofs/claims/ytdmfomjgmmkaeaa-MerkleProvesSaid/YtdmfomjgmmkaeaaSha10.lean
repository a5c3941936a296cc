/- usufructlaw3.told. -/
import Derived.Test.YtdmfomjgmmkaeaaSha9
import Derived.Lib.SlBytesConst
namespace Go.Proofs.Ytdmfomjgmmkaeaa
open Go.RowKit

theorem hex_nil : hexOf (shaOf []) = [101, 51, 98, 48, 99, 52, 52, 50, 57, 56, 102, 99, 49, 99, 49, 52, 57, 97, 102, 98, 102, 52, 99, 56, 57, 57, 54, 102, 98, 57, 50, 52, 50, 55, 97, 101, 52, 49, 101, 52, 54, 52, 57, 98, 57, 51, 52, 99, 97, 52, 57, 53, 57, 57, 49, 98, 55, 56, 53, 50, 98, 56, 53, 53] := by rw [sha_nil]; decide +kernel
theorem hex_abc : hexOf (shaOf [97, 98, 99]) = [98, 97, 55, 56, 49, 54, 98, 102, 56, 102, 48, 49, 99, 102, 101, 97, 52, 49, 52, 49, 52, 48, 100, 101, 53, 100, 97, 101, 50, 50, 50, 51, 98, 48, 48, 51, 54, 49, 97, 51, 57, 54, 49, 55, 55, 97, 57, 99, 98, 52, 49, 48, 102, 102, 54, 49, 102, 50, 48, 48, 49, 53, 97, 100] := by rw [sha_abc]; decide +kernel
theorem shaOf_len (bs : List UInt8) : (shaOf bs).length = 32 := by unfold shaOf outOf; simp
theorem bytes_abc (w : World) : BytesAt (w.alloc (.cells #[.int .u8 97, .int .u8 98, .int .u8 99] 5 (3, 4))) (some ⟨w.heap.size, 0, none⟩) [97, 98, 99] := by
  refine ⟨fun e => (by cases e), fun a e j c hc => ?_⟩
  obtain rfl := Option.some.inj e
  have h := heap_alloc_new w (.cells #[.int .u8 97, .int .u8 98, .int .u8 99] 5 (3, 4))
  match j, hc with
  | 0, hc => simp at hc; subst hc; show World.cell? _ ⟨w.heap.size, 0, none⟩ = _; unfold World.cell?; dsimp only; rw [h]; rfl
  | 1, hc => simp at hc; subst hc; show World.cell? _ ⟨w.heap.size, 1, none⟩ = _; unfold World.cell?; dsimp only; rw [h]; rfl
  | 2, hc => simp at hc; subst hc; show World.cell? _ ⟨w.heap.size, 2, none⟩ = _; unfold World.cell?; dsimp only; rw [h]; rfl
theorem conv_abc (w : World) : (convert 22 22 (.slice (some ⟨w.heap.size, 0, none⟩) 3 3)).run Try.prog (w.alloc (.cells #[.int .u8 97, .int .u8 98, .int .u8 99] 5)) = .ok (.slice (some ⟨w.heap.size, 0, none⟩) 3 3) (w.alloc (.cells #[.int .u8 97, .int .u8 98, .int .u8 99] 5 (3, 4))) :=
  Lib.run_convert_bytes_const w 22 5 #[.int .u8 97, .int .u8 98, .int .u8 99] 3 3 Try.underlying22 Try.underlying5

set_option maxRecDepth 100000 in
set_option maxHeartbeats 1000000 in
theorem told3_any (w : World) : Calls Try.prog 13 #[] w (SaysTrue w) := by
  go_enter Try.func13, Try.ntmps13
  go_wp2_with fail
  refine (sum_any (w := w) (ao := none) 0 (bs := []) (n := 0) rfl (bytesAt_nil none) (by simp) (by omega) (by decide) (by omega)).mono ?_
  rintro e w1 ⟨rfl, K1⟩
  go_wp2_with fail
  refine (hex_any w1 _ (shaOf_len [])).mono ?_
  rintro e w2 ⟨rfl, K2⟩
  rw [hex_nil]
  have hcv := conv_abc w2
  go_wp2_with fail
  refine (sum_any (ao := some ⟨w2.heap.size, 0, none⟩) 3 (bs := [97, 98, 99]) (n := 3) rfl (bytes_abc w2) (by simp) (by omega) (by decide) (by omega)).mono ?_
  rintro e w3 ⟨rfl, K3⟩
  go_wp2_with fail
  refine (hex_any w3 _ (shaOf_len _)).mono ?_
  rintro e w4 ⟨rfl, K4⟩
  rw [hex_abc]
  go_wp2_with fail
  go_ret
  exact ⟨rfl, K1.trans (K2.trans (((Keeps.refl _ _).alloc _).trans (K3.trans K4 (fun _ h _ => h)) (fun _ h _ => h)) (fun _ h _ => h)) (fun _ h _ => h)⟩

end Go.Proofs.Ytdmfomjgmmkaeaa
