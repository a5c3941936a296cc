/- Sums appended to sums; a part of a row of sums. -/
import Derived.Test.YtdmfomjgmmkaeaaMerk14
import Derived.Test.YtdmfomjgmmkaeaaMixG
namespace Go.Proofs.Ytdmfomjgmmkaeaa
open Go.RowKit

theorem flat_get : ∀ (l : List (List UInt8)) (j : Nat) (u : Value), (∀ x ∈ l, x.length = 32) → (l.flatMap (·.map byteV))[j]? = some u → ∃ x, l[j / 32]? = some x ∧ (x.map byteV)[j % 32]? = some u := by
  intro l
  induction l with
  | nil => intro j u _ h; simp at h
  | cons x l ih =>
    intro j u h32 h
    have hx : (x.map byteV).length = 32 := by rw [List.length_map]; exact h32 x (by simp)
    rw [List.flatMap_cons] at h
    by_cases hj : j < 32
    · rw [List.getElem?_append_left (by omega)] at h
      exact ⟨x, by rw [show j / 32 = 0 by omega]; rfl, by rw [show j % 32 = j by omega]; exact h⟩
    · rw [List.getElem?_append_right (by omega), hx] at h
      obtain ⟨y, h1, h2⟩ := ih (j - 32) u (fun z hz => h32 z (by simp [hz])) h
      exact ⟨y, by rw [show j / 32 = (j - 32) / 32 + 1 by omega, List.getElem?_cons_succ]; exact h1, by rw [show j % 32 = (j - 32) % 32 by omega]; exact h2⟩
theorem flat_len (l : List (List UInt8)) (h : ∀ x ∈ l, x.length = 32) : (l.flatMap (·.map byteV)).length = l.length * 32 := by
  induction l with
  | nil => rfl
  | cons x l ih =>
    rw [List.flatMap_cons, List.length_append, ih (fun z hz => h z (by simp [hz])), List.length_map, h x (by simp), List.length_cons]; omega
theorem src_hashes {w : World} {ao : Option Addr} {n : Nat} (c : Nat) {hs : List (List UInt8)} (hn : hs.length = n) (h : HashesAt w ao hs) : Src Try.prog 32 44 (.slice ao n c) n (hs.flatMap (·.map byteV)) w := by
  subst hn
  cases ao with
  | none =>
    rw [h.1 rfl]
    exact Src.ofNil _ Try.underlying44 c
  | some a =>
    refine Src.ofSlice _ Try.underlying44 a _ c _ (flat_len hs h.all32) (fun j u hj => ?_) (fun u hu => ?_)
    rotate_left
    · obtain ⟨x, _, hx⟩ := List.mem_flatMap.1 hu
      exact byteV_one x u hx
    obtain ⟨x, h1, h2⟩ := flat_get hs j u h.all32 hj
    obtain ⟨s0, _, hr⟩ := h.2 a rfl _ x h1
    have := hr _ _ h2
    rw [ad_add a s0, show a.off + j = a.off + j / 32 * 32 + j % 32 by omega]
    exact this
theorem wpList_appHs (w : World) {ops : Array Oper} {rest : List Oper} {o : Oper} {a : Act} {Q : Exit → Act → World → Prop} (hgd : o.guard = none) (s x : Operand)
    (ho : o.op = .call { callee := .builtin .append, args := #[s, x], argTypes := #[44, 44] })
    (ao : Option Addr) (cap : Nat) (hs : List (List UInt8)) (n : Nat) (hn : hs.length = n) (hsv : a.eval s = .slice ao n cap) (hown : OwnH w ao cap hs) (ap : Option Addr) (m cp : Nat) (ps : List (List UInt8)) (hm : ps.length = m)
    (hx : a.eval x = .slice ap m cp) (hg : HashesAt w ap ps) (hb : n + m ≤ 1000000000)
    (h : ∀ ao' cap' w', OwnH w' ao' cap' (hs ++ ps) → Keeps (fun k => blockOf ao = some k) w w' → Moved w.heap.size ao ao' → wpList Try.prog ops Q rest (a.put o.dst (.slice ao' (n + m) cap')) w') : wpList Try.prog ops Q (o :: rest) a w := by
  subst hn
  obtain ⟨i0, hi, hz0, hz1, hz2⟩ := info_parts3 infoH3
  have hsr := src_hashes cp hm hg
  refine wpList_append_src w hgd s x 44 44 ho 25 i0 (hashV zeros32) 32 32 Try.underlying44 hi hz0 hz1 hz2 (by rfl) ao hs.length cap (hs.flatMap (·.map byteV)) hsv hown _ m (ps.flatMap (·.map byteV)) hx hsr
    (by unfold maxLen; omega) (by omega) fun ao' cap' w' h1 h2 h3 => ?_
  have e1 : hs.flatMap (·.map byteV) ++ ps.flatMap (·.map byteV) = (hs ++ ps).flatMap (·.map byteV) := by rw [List.flatMap_append]
  have e2 : hs.length + m = (hs ++ ps).length := by rw [List.length_append, hm]
  refine h ao' cap' w' ?_ ((Keeps.refl _ _).grown h2 (fun k hk _ => hk)) h3
  rw [e1, e2] at h1
  exact h1
theorem HashesAt.drop {w : World} {b o : Nat} {hs : List (List UInt8)} (h : HashesAt w (some ⟨b, o, none⟩) hs) (k : Nat) : HashesAt w (some ⟨b, o + k * 32, none⟩) (hs.drop k) := by
  refine ⟨fun e => (by cases e), fun a e j x hx => ?_⟩
  obtain rfl := Option.some.inj e
  rw [List.getElem?_drop] at hx
  obtain ⟨_, h1, h2⟩ := h.2 _ rfl (k + j) x hx
  refine ⟨rfl, h1, ?_⟩
  rw [show o + k * 32 + j * 32 = o + (k + j) * 32 by omega]
  exact h2
theorem hashes_from (b o n c k : Nat) (hk : k ≤ n) (hc : n ≤ c) : ∃ b' o', (∀ W, (Instr.slice 44 (.slice (some ⟨b, o, none⟩) n c) (some (.int .i64 (k : Int))) none none).run Try.prog W = .ok (.slice (some ⟨b', o', none⟩) (n - k) (c - k)) W) ∧
    ∀ (w : World) (hs : List (List UInt8)), hs.length = n → HashesAt w (some ⟨b, o, none⟩) hs → HashesAt w (some ⟨b', o', none⟩) (hs.drop k) := by
  by_cases hck : c = k
  · refine ⟨b, o, fun W => ?_, fun w hs hl h => ?_⟩
    · rw [run_slice_l W 44 (some ⟨b, o, none⟩) n c (by exact Try.underlying44) .i64 k (by omega) (by omega), size44]
      simp [Result.andThen, sliced, hck]
    · rw [List.drop_eq_nil_of_le (by omega)]
      exact ⟨fun e => (by cases e), fun a e j x hx => by simp at hx⟩
  · refine ⟨b, o + k * 32, fun W => ?_, fun w hs _ h => h.drop k⟩
    rw [run_slice_l W 44 (some ⟨b, o, none⟩) n c (by exact Try.underlying44) .i64 k (by omega) (by omega), size44]
    simp [Result.andThen, sliced, hck, Addr.add_mid']

end Go.Proofs.Ytdmfomjgmmkaeaa
