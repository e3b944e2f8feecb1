/- The law's value of a polynomial at four integers. -/
import Derived.Test.YtnknidfpkmnncaaF2
import Derived.Test.YtnknidfpkmnncaaG1
namespace Go.Proofs.Ytnknidfpkmnncaa
open Go.RowKit

/-- Block g is a box of the integer z. -/
def IBox (B : Nat) (w : World) (g : Nat) (z : Int) : Prop :=
  ∃ A n c, w.heap[g]? = some (.cells #[.bool (decide (z < 0)), .slice A n c] 46 (0, 0)) ∧ Dig B w A n c (digs z.natAbs)
theorem heap_lt {w : World} {g : Nat} {o : Obj} (h : w.heap[g]? = some o) : g < w.heap.size := (Array.getElem?_eq_some_iff.1 h).1
theorem IBox.lt {B : Nat} {w : World} {g : Nat} {z : Int} (h : IBox B w g z) : g < w.heap.size := by
  obtain ⟨A, n, c, h1, _⟩ := h
  exact heap_lt h1
theorem IBox.below {B : Nat} {w w' : World} {g : Nat} {z : Int} (h : IBox B w g z) (hb : Below w.heap.size w w') : IBox B w' g z := by
  have hl := h.lt
  obtain ⟨A, n, c, h1, h2⟩ := h
  exact ⟨A, n, c, (hb.block g hl).trans h1, h2.below hb (Nat.le_refl _)⟩
theorem IBox.new {B : Nat} {w : World} {z : Int} {A : Option Addr} {n c : Nat} (h : Dig B w A n c (digs z.natAbs)) : IBox B (w.alloc (.cells #[.bool (decide (z < 0)), .slice A n c] 46)) w.heap.size z :=
  ⟨A, n, c, heap_alloc_new w _, h.below ((Below.refl _ _).alloc (Nat.le_refl _) _) (Nat.le_refl _)⟩
theorem IBox.ty {B : Nat} {w : World} {g : Nat} {z : Int} (h : IBox B w g z) : Ty w g 46 := by
  obtain ⟨A, n, c, h1, _⟩ := h
  exact ⟨_, _, h1⟩
theorem IBox.store {B : Nat} {w : World} {g : Nat} {z z' : Int} (h : IBox B w g z) (hB : B ≤ g) {A : Option Addr} {n c : Nat} (hd : Dig B w A n c (digs z'.natAbs)) : IBox B ((w.setCell ⟨g, 0, none⟩ (.bool (decide (z' < 0)))).setCell ⟨g, 1, none⟩ (.slice A n c)) g z' := by
  have ht := h.ty
  obtain ⟨A1, n1, c1, h1, _⟩ := h
  refine ⟨A, n, c, ?_, hd.result hB ht _ _⟩
  simp [World.setCell, Array.getElem?_modify, h1]
theorem IBox.other {B : Nat} {w : World} {g g' : Nat} {z : Int} {T : TypeId} (h : IBox B w g z) (hB : B ≤ g') (ht : Ty w g' T) (hT : 109 ≠ T) (hne : g ≠ g') (u v : Value) : IBox B ((w.setCell ⟨g', 0, none⟩ u).setCell ⟨g', 1, none⟩ v) g z := by
  obtain ⟨A, n, c, h1, h2⟩ := h
  refine ⟨A, n, c, ?_, (h2.setCell (p := ⟨g', 0, none⟩) hB ht hT u).setCell (p := ⟨g', 1, none⟩) hB (ht.setCell _ _) hT v⟩
  rw [Below.heap_setCell _ _ _ _ hne, Below.heap_setCell _ _ _ _ hne]
  exact h1
/-- The cells of a box. -/
theorem IBox.cells {B : Nat} {w : World} {g : Nat} {z : Int} (h : IBox B w g z) : ∃ A n c, w.cell? ⟨g, 0, none⟩ = some (.bool (decide (z < 0))) ∧ w.cell? ⟨g, 1, none⟩ = some (.slice A n c) ∧ w.frozen? ⟨g, 0, none⟩ = false ∧ w.frozen? ⟨g, 1, none⟩ = false ∧ Dig B w A n c (digs z.natAbs) := by
  obtain ⟨A, n, c, h1, h2⟩ := h
  refine ⟨A, n, c, ?_, ?_, ?_, ?_, h2⟩
  · rw [cell_of_row w g 0 _ _ _ h1]; rfl
  · rw [cell_of_row w g 1 _ _ _ h1]; rfl
  · simp [World.frozen?, h1]
  · simp [World.frozen?, h1]

/-- The state of value's loops: the box of x, the result's box, the box of the sum. -/
structure VSt (B : Nat) (w : World) (x : Ex) (g : Nat) (z : Int) (wr : World) : Prop where
  xb : wr.heap[w.heap.size]? = some (.cells #[.int .i64 x.1, .int .i64 x.2.1, .int .i64 x.2.2.1, .int .i64 x.2.2.2] 34 (0, 0))
  rb : wr.heap[w.heap.size + 1]? = some (.cells #[.bool false, .slice none 0 0] 46 (0, 0))
  vb : IBox B wr g z
  hg : w.heap.size + 1 < g
  below : Below w.heap.size w wr
theorem VSt.later {B : Nat} {w : World} {x : Ex} {g : Nat} {z : Int} {wr w1 : World} (h : VSt B w x g z wr) (hb : Below wr.heap.size wr w1) : VSt B w x g z w1 :=
  ⟨(hb.block _ (heap_lt h.xb)).trans h.xb, (hb.block _ (heap_lt h.rb)).trans h.rb, h.vb.below hb, h.hg, h.below.trans (hb.mono h.below.size)⟩
theorem VSt.tstore {B : Nat} {w : World} {x : Ex} {g g' : Nat} {z : Int} {wr : World} (h : VSt B w x g z wr) (hB : B ≤ w.heap.size) (hg' : w.heap.size + 1 < g') (ht : Ty wr g' 46) (hne : g ≠ g') (u v : Value) : VSt B w x g z ((wr.setCell ⟨g', 0, none⟩ u).setCell ⟨g', 1, none⟩ v) := by
  refine ⟨?_, ?_, h.vb.other (by omega) ht (by decide) hne u v, h.hg, (h.below.setCell (by show w.heap.size ≤ g'; omega) u).setCell (by show w.heap.size ≤ g'; omega) v⟩
  · rw [Below.heap_setCell _ _ _ _ (by show _ ≠ g'; omega), Below.heap_setCell _ _ _ _ (by show _ ≠ g'; omega)]; exact h.xb
  · rw [Below.heap_setCell _ _ _ _ (by show _ ≠ g'; omega), Below.heap_setCell _ _ _ _ (by show _ ≠ g'; omega)]; exact h.rb
theorem VSt.vstore {B : Nat} {w : World} {x : Ex} {g : Nat} {z z' : Int} {wr : World} (h : VSt B w x g z wr) (hB : B ≤ w.heap.size) {A : Option Addr} {n c : Nat} (hd : Dig B wr A n c (digs z'.natAbs)) : VSt B w x g z' ((wr.setCell ⟨g, 0, none⟩ (.bool (decide (z' < 0)))).setCell ⟨g, 1, none⟩ (.slice A n c)) := by
  have hg := h.hg
  refine ⟨?_, ?_, h.vb.store (by omega) hd, h.hg, (h.below.setCell (by show w.heap.size ≤ g; omega) _).setCell (by show w.heap.size ≤ g; omega) _⟩
  · rw [Below.heap_setCell _ _ _ _ (by show _ ≠ g; omega), Below.heap_setCell _ _ _ _ (by show _ ≠ g; omega)]; exact h.xb
  · rw [Below.heap_setCell _ _ _ _ (by show _ ≠ g; omega), Below.heap_setCell _ _ _ _ (by show _ ≠ g; omega)]; exact h.rb
theorem VSt.xcell {B : Nat} {w : World} {x : Ex} {g : Nat} {z : Int} {wr : World} (h : VSt B w x g z wr) (k : Nat) (hk : k < 4) : wr.cell? ⟨w.heap.size, k, none⟩ = some (.int .i64 (ex x k)) := by
  obtain ⟨a, b, c, d⟩ := x
  exact ex_cell wr _ a b c d h.xb k hk
theorem digs_le_big {z : Nat} (h : z < big) : (digs z).length ≤ 1099511627776 := by
  unfold big at h
  exact digs_length_le h
theorem iv_digs (z : Int) : iv (decide (z < 0)) (val (digs z.natAbs)) = z := by
  rw [val_digs]
  unfold iv
  by_cases hz : z < 0
  · rw [if_pos (by simpa using hz)]; omega
  · rw [if_neg (by simpa using hz)]; omega
/-- Products and sums of canonical integers. -/
theorem imulC_any (B : Nat) (a b : Int) (A A2 : Option Addr) (n c n2 c2 : Nat) (w : World) (hB : B ≤ w.heap.size) (hx : Dig B w A n c (digs a.natAbs)) (hy : Dig B w A2 n2 c2 (digs b.natAbs)) (ha : a.natAbs < big) (hb : b.natAbs < big) :
    Calls Try.prog 28 #[.agg #[.bool (decide (a < 0)), .slice A n c], .agg #[.bool (decide (b < 0)), .slice A2 n2 c2]] w (IntP B (a * b) w) := by
  have h := imul_any B (decide (a < 0)) (decide (b < 0)) A A2 n c n2 c2 _ _ w hB hx hy (by rw [← hx.len]; exact digs_le_big ha) (by rw [← hy.len]; exact digs_le_big hb)
  rw [iv_digs, iv_digs] at h
  exact h
theorem iaddC_any (B : Nat) (a b : Int) (A A2 : Option Addr) (n c n2 c2 : Nat) (w : World) (hB : B ≤ w.heap.size) (hx : Dig B w A n c (digs a.natAbs)) (hy : Dig B w A2 n2 c2 (digs b.natAbs)) (ha : a.natAbs < big) (hb : b.natAbs < big) :
    Calls Try.prog 48 #[.agg #[.bool (decide (a < 0)), .slice A n c], .agg #[.bool (decide (b < 0)), .slice A2 n2 c2]] w (IntP B (a + b) w) := by
  have h := iadd_any B (decide (a < 0)) (decide (b < 0)) A A2 n c n2 c2 _ _ w hB hx hy (by rw [← hx.len]; exact digs_le_big ha) (by rw [← hy.len]; exact digs_le_big hb)
  rw [iv_digs, iv_digs] at h
  exact h
theorem icmpC_any (B : Nat) (a b : Int) (A A2 : Option Addr) (n c n2 c2 : Nat) (w : World) (hx : Dig B w A n c (digs a.natAbs)) (hy : Dig B w A2 n2 c2 (digs b.natAbs)) :
    Calls Try.prog 26 #[.agg #[.bool (decide (a < 0)), .slice A n c], .agg #[.bool (decide (b < 0)), .slice A2 n2 c2]] w (ValP (.int .i64 (cmpI a b)) w) := by
  have h := icmp_any B (decide (a < 0)) (decide (b < 0)) A A2 n c n2 c2 _ _ w hx hy
  rw [iv_digs, iv_digs] at h
  exact h
end Go.Proofs.Ytnknidfpkmnncaa
