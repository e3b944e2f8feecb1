/- The drawn polynomials as the claims give them. -/
import Derived.Test.YtnknidfpkmnncaaDA
import Derived.Deep.Slices
import Derived.ChangeSame
import Derived.OpenShut
namespace Go.Proofs.Ytnknidfpkmnncaa
open Go.RowKit Go.ChangeShapes Go.WideShapes Go.Deep

theorem monoCells : Try.prog.cellsOf 78 = 5 := by kernel_rfl
theorem i8Cells : Try.prog.cellsOf 32 = 1 := by kernel_rfl
theorem expCells : Try.prog.cellsOf 76 = 4 := by kernel_rfl
theorem u8Cells : Try.prog.cellsOf 5 = 1 := by kernel_rfl
section
variable {H : Type} {enc : TypeId × Value → H} {W : World}
set_option maxRecDepth 100000 in
/-- One element's cells. -/
theorem open_mono {fuel : Nat} {cs : List Value} {x : DataW H × List MemPlace} {spare : Nat → Bool} {held : Bool} {base : Nat} (h : DataW.trod enc Try.prog W base spare held fuel 78 cs = some x) :
    ∃ m : Mono, cs = [.int .i8 m.1, .int .u8 m.2.1, .int .u8 m.2.2.1, .int .u8 m.2.2.2.1, .int .u8 m.2.2.2.2] ∧ MonoOk m := by
  obtain ⟨xs, n, rfl, hx, hl, hxl, hf⟩ := DataW.trod_struct Try.underlying78 h
  rw [monoCells] at hl
  match cs, hl with
  | [c0, c1, c2, c3, c4], _ =>
    have h0 : DataW.trod enc Try.prog W base spare held n 32 (([c0, c1, c2, c3, c4].drop 0).take (Try.prog.cellsOf 32)) = xs[0]? := hf 0 _ rfl
    have h1 : DataW.trod enc Try.prog W base spare held n 76 (([c0, c1, c2, c3, c4].drop 1).take (Try.prog.cellsOf 76)) = xs[1]? := hf 1 _ rfl
    rw [i8Cells] at h0
    rw [expCells] at h1
    have hs : xs.length = 2 := hxl
    rw [List.getElem?_eq_getElem (by omega)] at h0 h1
    obtain ⟨z, hz, _, hzw⟩ := DataW.trod_int Try.underlying32 h0
    obtain ⟨ys, k, rfl, hy, _, hyl, hg⟩ := DataW.trod_array Try.underlying76 h1
    rw [u8Cells] at hg
    have g0 := hg 0 (by omega)
    have g1 := hg 1 (by omega)
    have g2 := hg 2 (by omega)
    have g3 := hg 3 (by omega)
    rw [List.getElem?_eq_getElem (by omega)] at g0 g1 g2 g3
    obtain ⟨e0, he0, _, hw0⟩ := DataW.trod_int Try.underlying5 g0
    obtain ⟨e1, he1, _, hw1⟩ := DataW.trod_int Try.underlying5 g1
    obtain ⟨e2, he2, _, hw2⟩ := DataW.trod_int Try.underlying5 g2
    obtain ⟨e3, he3, _, hw3⟩ := DataW.trod_int Try.underlying5 g3
    simp at hz he0 he1 he2 he3
    subst hz he0 he1 he2 he3
    simp [Lit.wf, IntKind.wrap, IntKind.bits, IntKind.signed] at hzw hw0 hw1 hw2 hw3
    have q1 : IntKind.i8.min = -128 := rfl
    have q2 : IntKind.i8.max = 127 := rfl
    have q3 : IntKind.u8.min = 0 := rfl
    have q4 : IntKind.u8.max = 255 := rfl
    refine ⟨(z, e0, e1, e2, e3), rfl, by show -128 ≤ z; omega, by show z ≤ 127; omega, fun j => ?_⟩
    match j with
    | 0 => show 0 ≤ e0 ∧ e0 ≤ 255; omega
    | 1 => show 0 ≤ e1 ∧ e1 ≤ 255; omega
    | 2 => show 0 ≤ e2 ∧ e2 ≤ 255; omega
    | _ + 3 => show 0 ≤ e3 ∧ e3 ≤ 255; omega
def monoCs (m : Mono) : List Value := [.int .i8 m.1, .int .u8 m.2.1, .int .u8 m.2.2.1, .int .u8 m.2.2.2.1, .int .u8 m.2.2.2.2]
theorem flatM_inv (L : List Mono) : ∀ (k : Nat) (u : Value), (flatM L)[k]? = some u → ∃ i j m, L[i]? = some m ∧ j < 5 ∧ k = i * 5 + j ∧ (monoCs m)[j]? = some u := by
  induction L with
  | nil => intro k u h; simp [flatM] at h
  | cons m L ih =>
    intro k u h
    have e : flatM (m :: L) = monoCs m ++ flatM L := rfl
    rw [e] at h
    rcases Nat.lt_or_ge k 5 with hk | hk
    · rw [List.getElem?_append_left (by exact hk)] at h
      exact ⟨0, k, m, rfl, hk, by omega, h⟩
    · rw [List.getElem?_append_right (by exact hk)] at h
      obtain ⟨i, j, m', h1, h2, h3, h4⟩ := ih _ _ h
      have h5 : (monoCs m).length = 5 := rfl
      exact ⟨i + 1, j, m', by simpa using h1, h2, by omega, h4⟩
theorem flatM_length (L : List Mono) : (flatM L).length = L.length * 5 := by
  induction L with
  | nil => rfl
  | cons m L ih =>
    have e : flatM (m :: L) = monoCs m ++ flatM L := rfl
    rw [e, List.length_append, ih, List.length_cons]
    have h5 : (monoCs m).length = 5 := rfl
    omega
theorem open_monos {fuel : Nat} {v : Value} {x : DataW H × List MemPlace} {spare : Nat → Bool} {held : Bool} {base : Nat} (h : DataW.trod enc Try.prog W base spare held fuel 22 [v] = some x) :
    ∃ A n c L, v = .slice A n c ∧ MonoR W.heap.size W A n c L := by
  rcases open_slice Try.underlying22 h with ⟨hc, _⟩ | ⟨a, len, cap, m, n, D, Pl, hc, _, hl, hm, hmm, _, hall⟩
  · simp only [List.cons.injEq, and_true] at hc
    exact ⟨none, 0, 0, [], hc, Row.nil, rfl, fun m hm => by cases hm⟩
  · simp only [List.cons.injEq, and_true] at hc
    rw [monoCells] at hall
    have hml : len ≤ m := by rw [hmm]; split <;> omega
    have hch : ∀ i, ∃ mo : Mono, i < len → W.cells? base (a.add (i * 5)) 5 = some (monoCs mo) ∧ MonoOk mo := fun i => by
      by_cases hi : i < len
      · obtain ⟨cs', h1, h2⟩ := hall i (by omega)
        obtain ⟨mo, rfl, h4⟩ := open_mono h2
        exact ⟨mo, fun _ => ⟨h1, h4⟩⟩
      · exact ⟨(0, 0, 0, 0, 0), fun h => absurd h hi⟩
    obtain ⟨f, hf⟩ := Classical.axiomOfChoice hch
    refine ⟨some a, len, cap, (List.range len).map f, hc, ⟨?_, hl, ?_, fun hpos => ⟨a, rfl, ?_, fun k u hu => ?_⟩⟩, by simp, fun mo hmo => ?_⟩
    · rw [flatM_length]; simp
    · exact hm
    · left
      obtain ⟨_, _, h3⟩ := World.cells?_some (hf 0 hpos).1
      have h4 := h3 0 (by decide)
      have := World.block_lt_of_cell? W _ h4
      rwa [block_of_add, block_of_add] at this
    · obtain ⟨i, j, mo, h1, h2, rfl, h4⟩ := flatM_inv _ _ _ hu
      rw [List.getElem?_map] at h1
      have hi : i < len := by
        rcases Nat.lt_or_ge i len with hi | hi
        · exact hi
        · rw [List.getElem?_eq_none (by simpa using hi)] at h1; cases h1
      rw [List.getElem?_range hi] at h1
      injection h1 with h1
      obtain ⟨_, _, h3⟩ := World.cells?_some (hf i hi).1
      have h5 := h3 j h2
      rw [add_of_add] at h5
      rw [h5, ← h4, ← h1]
    · obtain ⟨i, hi, rfl⟩ := List.mem_map.1 hmo
      exact (hf i (by simpa using hi)).2
end
end Go.Proofs.Ytnknidfpkmnncaa
