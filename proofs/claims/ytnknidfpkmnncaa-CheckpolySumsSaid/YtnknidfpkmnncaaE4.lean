/- Arrays of small integers, as the claims give them. -/
import Derived.Test.YtnknidfpkmnncaaE2
namespace Go.Proofs.Ytnknidfpkmnncaa
open Go.RowKit Go.ChangeShapes Go.WideShapes Go.Deep

theorem okWide_array {P : Program} {w : World} {r : Reach} {base n : Nat} {e t : TypeId} {v : Value} (ht : P.underlying t = some (.array n e)) (h : Value.okWide P w r base t v) : ∃ cs, v = .agg cs ∧ cs.size = P.cellsOf t := by
  simp only [Value.okWide, ht] at h
  obtain ⟨cs, h1, h2, _⟩ := h
  exact ⟨cs, h1, h2⟩
theorem i8x4Cells : Try.prog.cellsOf 33 = 4 := by kernel_rfl
section
variable {H : Type} {enc : TypeId × Value → H} {W : World}
set_option maxRecDepth 100000 in
theorem open_at4 {fuel : Nat} {cs : List Value} {x : DataW H × List MemPlace} {spare : Nat → Bool} {held : Bool} {base : Nat} (h : DataW.trod enc Try.prog W base spare held fuel 33 cs = some x) :
    ∃ m : Ex, cs = [.int .i8 m.1, .int .i8 m.2.1, .int .i8 m.2.2.1, .int .i8 m.2.2.2] ∧ ∀ j, j < 4 → -128 ≤ ex m j ∧ ex m j ≤ 127 := by
  obtain ⟨ys, k, rfl, hy, hl, hyl, hg⟩ := DataW.trod_array Try.underlying33 h
  rw [i8x4Cells] at hl
  rw [i8Cells] at hg
  match cs, hl with
  | [c0, c1, c2, c3], _ =>
    have g0 := hg 0 (by omega)
    have g1 := hg 1 (by omega)
    have g2 := hg 2 (by omega)
    have g3 := hg 3 (by omega)
    rw [List.getElem?_eq_getElem (by omega)] at g0 g1 g2 g3
    obtain ⟨e0, he0, _, hw0⟩ := DataW.trod_int Try.underlying32 g0
    obtain ⟨e1, he1, _, hw1⟩ := DataW.trod_int Try.underlying32 g1
    obtain ⟨e2, he2, _, hw2⟩ := DataW.trod_int Try.underlying32 g2
    obtain ⟨e3, he3, _, hw3⟩ := DataW.trod_int Try.underlying32 g3
    simp at he0 he1 he2 he3
    subst he0 he1 he2 he3
    simp [Lit.wf, IntKind.wrap, IntKind.bits, IntKind.signed] at hw0 hw1 hw2 hw3
    have q1 : IntKind.i8.min = -128 := rfl
    have q2 : IntKind.i8.max = 127 := rfl
    refine ⟨(e0, e1, e2, e3), rfl, fun j hj => ?_⟩
    match j, hj with
    | 0, _ => show -128 ≤ e0 ∧ e0 ≤ 127; omega
    | 1, _ => show -128 ≤ e1 ∧ e1 ≤ 127; omega
    | 2, _ => show -128 ≤ e2 ∧ e2 ≤ 127; omega
    | 3, _ => show -128 ≤ e3 ∧ e3 ≤ 127; omega
end
end Go.Proofs.Ytnknidfpkmnncaa
