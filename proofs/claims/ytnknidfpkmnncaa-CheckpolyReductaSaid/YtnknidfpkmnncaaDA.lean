/- Words shared by the laws' walks. -/
import Derived.Test.YtnknidfpkmnncaaD9
namespace Go.Proofs.Ytnknidfpkmnncaa
open Go.RowKit

theorem MonoR.below {B : Nat} {w w' : World} {A : Option Addr} {n c : Nat} {L : List Mono} (h : MonoR B w A n c L) {B' : Nat} (hb : Below B' w w') (hB : w.heap.size ≤ B') : MonoR B w' A n c L :=
  ⟨h.row.below (by omega) hb hB, h.lenL, h.rng⟩
theorem l1_mono {L : List Mono} (h : ∀ m ∈ L, -128 ≤ m.1 ∧ m.1 ≤ 127 ∧ ∀ j, 0 ≤ ex m.2 j ∧ ex m.2 j ≤ 255) : l1 L ≤ 128 * L.length := by
  induction L with
  | nil => simp [l1_nil]
  | cons p L ih =>
    have h1 := h p (by simp)
    have h2 := ih fun m hm => h m (List.mem_cons_of_mem _ hm)
    rw [l1_cons, List.length_cons]
    omega
theorem ValP.base {v : Value} {W w : World} {e : Ending} {w' : World} (h : ValP v w e w') (hb : Below W.heap.size W w) : ValP v W e w' := ⟨h.1, hb.trans (h.2.mono hb.size)⟩
end Go.Proofs.Ytnknidfpkmnncaa
