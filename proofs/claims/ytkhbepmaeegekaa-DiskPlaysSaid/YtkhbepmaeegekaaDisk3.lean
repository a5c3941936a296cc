/- usufructlaw25.told. -/
import Derived.Test.YtkhbepmaeegekaaDisk2
import Derived.Lib.SlBytesConst
namespace Go.Proofs.Ytkhbepmaeegekaa
open Go.RowKit

/-- A disk that was made since the world w0. -/
structure DkNew (w0 w : World) (p : Nat) (ao : Option Addr) (cap : Nat) (d : DkS) : Prop where
  dk : Dk w p ao cap d
  keep : Keeps Nothing w0 w
  pn : w0.heap.size ≤ p
  an : ∀ g, blockOf ao = some g → w0.heap.size ≤ g

theorem DkNew.step {w0 w w' : World} {p : Nat} {ao ao' : Option Addr} {cap cap' : Nat} {d d' : DkS} (h : DkNew w0 w p ao cap d) (h1 : Dk w' p ao' cap' d') (h2 : Keeps (WrF p ao) w w') (h3 : Moved w.heap.size ao ao') : DkNew w0 w' p ao' cap' d' :=
  ⟨h1, h.keep.trans h2 (fun i hi hlt => by
    rcases hi with hi | hi
    · have := h.pn; omega
    · have := h.an i hi; omega), h.pn, h3.new h.keep.size h.an⟩
theorem DkNew.keepsN {w0 w w' : World} {p : Nat} {ao : Option Addr} {cap : Nat} {d : DkS} (h : DkNew w0 w p ao cap d) (hk : Keeps Nothing w w') : DkNew w0 w' p ao cap d :=
  ⟨h.dk.keepsN hk, h.keep.trans hk (fun _ h _ => h), h.pn, h.an⟩
theorem dkNew_new (w : World) (room : Int) (h0 : 0 ≤ room) (h1 : room ≤ 16777216) : DkNew w (w.alloc (.cells #[.int .i64 room, .slice none 0 0, .int .i64 0, .bool false] 90)) w.heap.size none 0 ⟨room, [], 0, false⟩ :=
  ⟨dk_new w room h0 h1, (Keeps.refl _ _).alloc _, Nat.le_refl _, fun g hg => by simp [blockOf] at hg⟩

section
variable {w : World} {p : Nat} {ao : Option Addr} {cap : Nat} {d d' : DkS} {c : Nat}
theorem disk_append_to (h : Dk w p ao cap d) {aox : Option Addr} (c' : Nat) {cs : List UInt8} (hE : d.append cs = (c, d')) (hx : BytesAt w aox cs) (hl : cs.length ≤ 1000000000) {n : Nat} (hn : n = cs.length) :
    Calls Try.prog 15 #[.pointer (some ⟨p, 0, none⟩), .slice aox n c'] w (DkPost w p ao c d') := by
  have := disk_append h c' hx hl hn
  rw [hE] at this
  exact this
theorem disk_sync_to (h : Dk w p ao cap d) (hE : d.sync = (c, d')) : Calls Try.prog 16 #[.pointer (some ⟨p, 0, none⟩)] w (DkPost w p ao c d') := by
  have := disk_sync h
  rw [hE] at this
  exact this
theorem disk_cut_to (h : Dk w p ao cap d) {n : Int} (hE : d.cut n = (c, d')) : Calls Try.prog 18 #[.pointer (some ⟨p, 0, none⟩), .int .i64 n] w (DkPost w p ao c d') := by
  have := disk_cut h n
  rw [hE] at this
  exact this
theorem disk_start_to (h : Dk w p ao cap d) (hE : d.start = (c, d')) : Calls Try.prog 19 #[.pointer (some ⟨p, 0, none⟩)] w (DkPost w p ao c d') := by
  have := disk_start h
  rw [hE] at this
  exact this
theorem disk_crash_to (h : Dk w p ao cap d) {n : Int} (hE : d.crash n = d') : Calls Try.prog 17 #[.pointer (some ⟨p, 0, none⟩), .int .i64 n] w (DkDone w p ao d') := by
  have := disk_crash h n
  rw [hE] at this
  exact this
end

set_option maxRecDepth 100000 in
set_option maxHeartbeats 1000000 in
theorem disk_told (w : World) : Calls Try.prog 14 #[] w (SaysTrue w) := by
  have kc := fun (w : World) (C : Array Value) (n c : Nat) => Lib.run_convert_bytes_const (P := Try.prog) w 29 5 C n c Try.underlying29 Try.underlying5
  go_enter Try.func14, Try.ntmps14
  go_wp2_with fail
  refine (disk_new 100 (by omega) (by omega) w).mono ?_
  rintro e w0 ⟨rfl, hw0⟩
  have D0 := dkNew_new w 100 (by omega) (by omega)
  rw [← hw0] at D0
  clear hw0
  generalize hp : w.heap.size = p at *
  have HP := Lib.hid hp
  clear hp
  go_wp2_with fail
  have D1 := D0.keepsN ((Keeps.refl _ _).alloc (.cells (([97, 98, 99] : List UInt8).map byteV).toArray 5 (3, 4)))
  refine (disk_append_to (cs := [97, 98, 99]) (c := 0) (d' := ⟨100, [97, 98, 99], 0, false⟩) D1.dk _ rfl (bytesAt_lit2 w0 [97, 98, 99] _ _) (by decide) rfl).mono ?_
  rintro e w1 ⟨ev, rfl, hev, ao1, cap1, d1, k1, m1⟩
  obtain rfl := isErr_no hev
  have D2 := D1.step d1 k1 m1
  clear d1 k1 m1 hev D1 D0
  go_wp2_with fail
  refine (disk_sync_to (c := 0) (d' := ⟨100, [97, 98, 99], 3, false⟩) D2.dk rfl).mono ?_
  rintro e w2 ⟨ev, rfl, hev, ao2, cap2, d1, k1, m1⟩
  obtain rfl := isErr_no hev
  have D3 := D2.step d1 k1 m1
  clear d1 k1 m1 hev D2
  go_wp2_with fail
  have D4 := D3.keepsN ((Keeps.refl _ _).alloc (.cells (([100, 101, 102, 103] : List UInt8).map byteV).toArray 5 (4, 5)))
  refine (disk_append_to (cs := [100, 101, 102, 103]) (c := 0) (d' := ⟨100, [97, 98, 99, 100, 101, 102, 103], 3, false⟩) D4.dk _ rfl (bytesAt_lit2 w2 [100, 101, 102, 103] _ _) (by decide) rfl).mono ?_
  rintro e w3 ⟨ev, rfl, hev, ao3, cap3, d1, k1, m1⟩
  obtain rfl := isErr_no hev
  have D5 := D4.step d1 k1 m1
  clear d1 k1 m1 hev D4 D3
  go_wp2_with fail
  refine (disk_crash_to (n := 2) (d' := ⟨100, [97, 98, 99, 100, 101], 5, true⟩) D5.dk rfl).mono ?_
  rintro e w4 ⟨rfl, ao4, cap4, d1, k1, m1⟩
  have D6 := D5.step d1 k1 m1
  clear d1 k1 m1 D5
  go_wp2_with fail
  refine (disk_read D6.dk).mono ?_
  rintro e w5 ⟨hr, _⟩
  obtain ⟨ev5, rfl, hev5, k5⟩ := hr rfl
  have D7 := D6.keepsN k5
  have hb5 := D6.dk.lt
  clear hr D6
  go_wp2_with fail
  refine (disk_start_to (c := 0) (d' := ⟨100, [97, 98, 99, 100, 101], 5, false⟩) D7.dk rfl).mono ?_
  rintro e w6 ⟨ev, rfl, hev, ao6, cap6, d1, k1, m1⟩
  obtain rfl := isErr_no hev
  have hev6 := hev5.keeps k1 (fun i hi => by rcases hi with rfl | hi; exact hb5.1; exact hb5.2 i hi)
  have D8 := D7.step d1 k1 m1
  clear d1 k1 m1 hev D7 hev5 k5 hb5
  go_wp2_with fail
  refine (disk_read D8.dk).mono ?_
  rintro e w7 ⟨_, hr⟩
  obtain ⟨ao7, cap7, rfl, o7, k7, a7⟩ := hr rfl
  have D9 := D8.keepsN k7
  have hev7 := hev6.keeps k7 (fun _ h => h.elim)
  clear hr D8 hev6
  go_wp2_with fail
  refine (disk_new_bad (-1) (by omega) w7).mono ?_
  rintro e w8 ⟨ev8, rfl, hev8, k8⟩
  have D10 := D9.keepsN k8
  have o8 := k8.own o7 (fun _ _ h => h)
  have hev88 := hev7.keeps k8 (fun _ h => h.elim)
  clear D9 hev7 o7
  go_wp2_with fail
  refine (is_any hev88 15 0).mono ?_
  rintro e w9 ⟨rfl, n9, rfl⟩
  have hconv := run_str w8 cap7 [97, 98, 99, 100, 101] (l := 5) rfl (own8_at o8)
  have hconv9 : (convert 29 9 (.slice ao7 5 cap7)).run Try.prog (w8.drewN n9) = .ok (.string ⟨#[97, 98, 99, 100, 101]⟩) (w8.drewN n9) := run_str (w8.drewN n9) cap7 [97, 98, 99, 100, 101] (l := 5) rfl (own8_at (w := w8.drewN n9) o8)
  have D11 := D10.keepsN ((Keeps.refl _ _).drewN n9)
  clear hconv
  go_wp2_with fail
  refine (disk_synced D11.dk).mono ?_
  rintro e w10 ⟨rfl, rfl⟩
  go_wp2_with fail
  refine (is_any (w := w8.drewN n9) hev8 2 0).mono ?_
  rintro e w11 ⟨rfl, n11, rfl⟩
  have D12 := D10.keepsN ((Keeps.refl _ _).drewN (n9 + n11))
  go_wp2_with fail
  refine (disk_start_to (c := 13) (d' := ⟨100, [97, 98, 99, 100, 101], 5, false⟩) D12.dk rfl).mono ?_
  rintro e w12 ⟨ev, rfl, hev, ao12, cap12, d1, k1, m1⟩
  have D13 := D12.step d1 k1 m1
  go_wp2_with fail
  refine (is_any hev 13 0).mono ?_
  rintro e w13 ⟨rfl, n13, rfl⟩
  go_wp2_with fail
  go_ret
  exact ⟨ret_bool (by decide), D13.keep.drewN _⟩

end Go.Proofs.Ytkhbepmaeegekaa
