/- F3, V3, F4, F5, F6, F7, H1, V4. -/
import Derived.Test.YtnknidfpkmnncaaM4
import Derived.Test.YtnknidfpkmnncaaM5
import Derived.Outline
/- The law's value of a polynomial at four integers. -/
namespace Go.Proofs.Ytnknidfpkmnncaa
open Go.RowKit

/-- Block g is a box of the integer z. -/
def IBox (B : Nat) (w : World) (g : Nat) (z : Int) : Prop :=
  ∃ A n c, w.heap[g]? = some (.cells #[.bool (decide (z < 0)), .slice A n c] 46 (0, 0)) ∧ Dig B w A n c (digs z.natAbs)
theorem heap_lt {w : World} {g : Nat} {o : Obj} (h : w.heap[g]? = some o) : g < w.heap.size := (Array.getElem?_eq_some_iff.1 h).1
theorem IBox.lt {B : Nat} {w : World} {g : Nat} {z : Int} (h : IBox B w g z) : g < w.heap.size := by
  obtain ⟨A, n, c, h1, _⟩ := h
  exact heap_lt h1
theorem IBox.below {B : Nat} {w w' : World} {g : Nat} {z : Int} (h : IBox B w g z) (hb : Below w.heap.size w w') : IBox B w' g z := by
  have hl := h.lt
  obtain ⟨A, n, c, h1, h2⟩ := h
  exact ⟨A, n, c, (hb.block g hl).trans h1, h2.below hb (Nat.le_refl _)⟩
theorem IBox.new {B : Nat} {w : World} {z : Int} {A : Option Addr} {n c : Nat} (h : Dig B w A n c (digs z.natAbs)) : IBox B (w.alloc (.cells #[.bool (decide (z < 0)), .slice A n c] 46)) w.heap.size z :=
  ⟨A, n, c, heap_alloc_new w _, h.below ((Below.refl _ _).alloc (Nat.le_refl _) _) (Nat.le_refl _)⟩
theorem IBox.ty {B : Nat} {w : World} {g : Nat} {z : Int} (h : IBox B w g z) : Ty w g 46 := by
  obtain ⟨A, n, c, h1, _⟩ := h
  exact ⟨_, _, h1⟩
theorem IBox.store {B : Nat} {w : World} {g : Nat} {z z' : Int} (h : IBox B w g z) (hB : B ≤ g) {A : Option Addr} {n c : Nat} (hd : Dig B w A n c (digs z'.natAbs)) : IBox B ((w.setCell ⟨g, 0, none⟩ (.bool (decide (z' < 0)))).setCell ⟨g, 1, none⟩ (.slice A n c)) g z' := by
  have ht := h.ty
  obtain ⟨A1, n1, c1, h1, _⟩ := h
  refine ⟨A, n, c, ?_, hd.result hB ht _ _⟩
  simp [World.setCell, Array.getElem?_modify, h1]
theorem IBox.other {B : Nat} {w : World} {g g' : Nat} {z : Int} {T : TypeId} (h : IBox B w g z) (hB : B ≤ g') (ht : Ty w g' T) (hT : 109 ≠ T) (hne : g ≠ g') (u v : Value) : IBox B ((w.setCell ⟨g', 0, none⟩ u).setCell ⟨g', 1, none⟩ v) g z := by
  obtain ⟨A, n, c, h1, h2⟩ := h
  refine ⟨A, n, c, ?_, (h2.setCell (p := ⟨g', 0, none⟩) hB ht hT u).setCell (p := ⟨g', 1, none⟩) hB (ht.setCell _ _) hT v⟩
  rw [Below.heap_setCell _ _ _ _ hne, Below.heap_setCell _ _ _ _ hne]
  exact h1
/-- The cells of a box. -/
theorem IBox.cells {B : Nat} {w : World} {g : Nat} {z : Int} (h : IBox B w g z) : ∃ A n c, w.cell? ⟨g, 0, none⟩ = some (.bool (decide (z < 0))) ∧ w.cell? ⟨g, 1, none⟩ = some (.slice A n c) ∧ w.frozen? ⟨g, 0, none⟩ = false ∧ w.frozen? ⟨g, 1, none⟩ = false ∧ Dig B w A n c (digs z.natAbs) := by
  obtain ⟨A, n, c, h1, h2⟩ := h
  refine ⟨A, n, c, ?_, ?_, ?_, ?_, h2⟩
  · rw [cell_of_row w g 0 _ _ _ h1]; rfl
  · rw [cell_of_row w g 1 _ _ _ h1]; rfl
  · simp [World.frozen?, h1]
  · simp [World.frozen?, h1]

/-- The state of value's loops: the box of x, the result's box, the box of the sum. -/
structure VSt (B : Nat) (w : World) (x : Ex) (g : Nat) (z : Int) (wr : World) : Prop where
  xb : wr.heap[w.heap.size]? = some (.cells #[.int .i64 x.1, .int .i64 x.2.1, .int .i64 x.2.2.1, .int .i64 x.2.2.2] 34 (0, 0))
  rb : wr.heap[w.heap.size + 1]? = some (.cells #[.bool false, .slice none 0 0] 46 (0, 0))
  vb : IBox B wr g z
  hg : w.heap.size + 1 < g
  below : Below w.heap.size w wr
theorem VSt.later {B : Nat} {w : World} {x : Ex} {g : Nat} {z : Int} {wr w1 : World} (h : VSt B w x g z wr) (hb : Below wr.heap.size wr w1) : VSt B w x g z w1 :=
  ⟨(hb.block _ (heap_lt h.xb)).trans h.xb, (hb.block _ (heap_lt h.rb)).trans h.rb, h.vb.below hb, h.hg, h.below.trans (hb.mono h.below.size)⟩
theorem VSt.tstore {B : Nat} {w : World} {x : Ex} {g g' : Nat} {z : Int} {wr : World} (h : VSt B w x g z wr) (hB : B ≤ w.heap.size) (hg' : w.heap.size + 1 < g') (ht : Ty wr g' 46) (hne : g ≠ g') (u v : Value) : VSt B w x g z ((wr.setCell ⟨g', 0, none⟩ u).setCell ⟨g', 1, none⟩ v) := by
  refine ⟨?_, ?_, h.vb.other (by omega) ht (by decide) hne u v, h.hg, (h.below.setCell (by show w.heap.size ≤ g'; omega) u).setCell (by show w.heap.size ≤ g'; omega) v⟩
  · rw [Below.heap_setCell _ _ _ _ (by show _ ≠ g'; omega), Below.heap_setCell _ _ _ _ (by show _ ≠ g'; omega)]; exact h.xb
  · rw [Below.heap_setCell _ _ _ _ (by show _ ≠ g'; omega), Below.heap_setCell _ _ _ _ (by show _ ≠ g'; omega)]; exact h.rb
theorem VSt.vstore {B : Nat} {w : World} {x : Ex} {g : Nat} {z z' : Int} {wr : World} (h : VSt B w x g z wr) (hB : B ≤ w.heap.size) {A : Option Addr} {n c : Nat} (hd : Dig B wr A n c (digs z'.natAbs)) : VSt B w x g z' ((wr.setCell ⟨g, 0, none⟩ (.bool (decide (z' < 0)))).setCell ⟨g, 1, none⟩ (.slice A n c)) := by
  have hg := h.hg
  refine ⟨?_, ?_, h.vb.store (by omega) hd, h.hg, (h.below.setCell (by show w.heap.size ≤ g; omega) _).setCell (by show w.heap.size ≤ g; omega) _⟩
  · rw [Below.heap_setCell _ _ _ _ (by show _ ≠ g; omega), Below.heap_setCell _ _ _ _ (by show _ ≠ g; omega)]; exact h.xb
  · rw [Below.heap_setCell _ _ _ _ (by show _ ≠ g; omega), Below.heap_setCell _ _ _ _ (by show _ ≠ g; omega)]; exact h.rb
theorem VSt.xcell {B : Nat} {w : World} {x : Ex} {g : Nat} {z : Int} {wr : World} (h : VSt B w x g z wr) (k : Nat) (hk : k < 4) : wr.cell? ⟨w.heap.size, k, none⟩ = some (.int .i64 (ex x k)) := by
  obtain ⟨a, b, c, d⟩ := x
  exact ex_cell wr _ a b c d h.xb k hk
theorem digs_le_big {z : Nat} (h : z < big) : (digs z).length ≤ 1099511627776 := by
  unfold big at h
  exact digs_length_le h
theorem iv_digs (z : Int) : iv (decide (z < 0)) (val (digs z.natAbs)) = z := by
  rw [val_digs]
  unfold iv
  by_cases hz : z < 0
  · rw [if_pos (by simpa using hz)]; omega
  · rw [if_neg (by simpa using hz)]; omega
/-- Products and sums of canonical integers. -/
theorem imulC_any (B : Nat) (a b : Int) (A A2 : Option Addr) (n c n2 c2 : Nat) (w : World) (hB : B ≤ w.heap.size) (hx : Dig B w A n c (digs a.natAbs)) (hy : Dig B w A2 n2 c2 (digs b.natAbs)) (ha : a.natAbs < big) (hb : b.natAbs < big) :
    Calls Try.prog 28 #[.agg #[.bool (decide (a < 0)), .slice A n c], .agg #[.bool (decide (b < 0)), .slice A2 n2 c2]] w (IntP B (a * b) w) := by
  have h := imul_any B (decide (a < 0)) (decide (b < 0)) A A2 n c n2 c2 _ _ w hB hx hy (by rw [← hx.len]; exact digs_le_big ha) (by rw [← hy.len]; exact digs_le_big hb)
  rw [iv_digs, iv_digs] at h
  exact h
theorem iaddC_any (B : Nat) (a b : Int) (A A2 : Option Addr) (n c n2 c2 : Nat) (w : World) (hB : B ≤ w.heap.size) (hx : Dig B w A n c (digs a.natAbs)) (hy : Dig B w A2 n2 c2 (digs b.natAbs)) (ha : a.natAbs < big) (hb : b.natAbs < big) :
    Calls Try.prog 48 #[.agg #[.bool (decide (a < 0)), .slice A n c], .agg #[.bool (decide (b < 0)), .slice A2 n2 c2]] w (IntP B (a + b) w) := by
  have h := iadd_any B (decide (a < 0)) (decide (b < 0)) A A2 n c n2 c2 _ _ w hB hx hy (by rw [← hx.len]; exact digs_le_big ha) (by rw [← hy.len]; exact digs_le_big hb)
  rw [iv_digs, iv_digs] at h
  exact h
theorem icmpC_any (B : Nat) (a b : Int) (A A2 : Option Addr) (n c n2 c2 : Nat) (w : World) (hx : Dig B w A n c (digs a.natAbs)) (hy : Dig B w A2 n2 c2 (digs b.natAbs)) :
    Calls Try.prog 26 #[.agg #[.bool (decide (a < 0)), .slice A n c], .agg #[.bool (decide (b < 0)), .slice A2 n2 c2]] w (ValP (.int .i64 (cmpI a b)) w) := by
  have h := icmp_any B (decide (a < 0)) (decide (b < 0)) A A2 n c n2 c2 _ _ w hx hy
  rw [iv_digs, iv_digs] at h
  exact h
end Go.Proofs.Ytnknidfpkmnncaa
/- division.zero, Quo, Exact, for a divisor that is not 0. -/
namespace Go.Proofs.Ytnknidfpkmnncaa
open Go.RowKit

theorem dzero_any (B : Nat) (neg : Bool) (A : Option Addr) (n c : Nat) (xs : List Nat) (w : World) (h : Dig B w A n c xs) :
    Calls Try.prog 81 #[.agg #[.bool neg, .slice A n c]] w (ValP (.bool (decide (val xs = 0))) w) := by
  have hbw : Below w.heap.size w (w.alloc (.cells #[.bool neg, .slice A n c] 46)) := (Below.refl _ _).alloc (Nat.le_refl _) _
  have HQ := Lib.hid (isZero_any B _ _ _ _ _ (h.below hbw (Nat.le_refl _)))
  go_enter Try.func81, Try.ntmps81
  go_wp2_with fail
  refine HQ.out.mono ?_
  rintro e w1 ⟨rfl, rfl⟩
  go_wp2
  go_ret
  exact ⟨rfl, hbw⟩

/-- The four blocks that a function of two Ints with two Ints as results lays at its start. -/
structure Box4 (w : World) (neg neg2 : Bool) (A A2 : Option Addr) (n c n2 c2 : Nat) (wr : World) : Prop where
  a0 : wr.cell? ⟨w.heap.size, 0, none⟩ = some (.bool neg)
  a1 : wr.cell? ⟨w.heap.size, 1, none⟩ = some (.slice A n c)
  b0 : wr.cell? ⟨w.heap.size + 1, 0, none⟩ = some (.bool neg2)
  b1 : wr.cell? ⟨w.heap.size + 1, 1, none⟩ = some (.slice A2 n2 c2)
  r0 : wr.cell? ⟨w.heap.size + 1 + 1, 0, none⟩ = some (.bool false)
  r1 : wr.cell? ⟨w.heap.size + 1 + 1, 1, none⟩ = some (.slice none 0 0)
  s0 : wr.cell? ⟨w.heap.size + 1 + 1 + 1, 0, none⟩ = some (.bool false)
  s1 : wr.cell? ⟨w.heap.size + 1 + 1 + 1, 1, none⟩ = some (.slice none 0 0)
  fr0 : wr.frozen? ⟨w.heap.size + 1 + 1, 0, none⟩ = false
  fr1 : wr.frozen? ⟨w.heap.size + 1 + 1, 1, none⟩ = false
  fs0 : wr.frozen? ⟨w.heap.size + 1 + 1 + 1, 0, none⟩ = false
  fs1 : wr.frozen? ⟨w.heap.size + 1 + 1 + 1, 1, none⟩ = false
  size : w.heap.size + 1 + 1 + 1 < wr.heap.size
  ty : Ty wr (w.heap.size + 1 + 1) 46
  ty2 : Ty wr (w.heap.size + 1 + 1 + 1) 46
  below : Below w.heap.size w wr
section
variable {w wr w1 : World} {neg neg2 : Bool} {A A2 : Option Addr} {n c n2 c2 : Nat}
theorem Box4.start (w : World) (neg neg2 : Bool) (A A2 : Option Addr) (n c n2 c2 : Nat) :
    Box4 w neg neg2 A A2 n c n2 c2 ((((w.alloc (.cells #[.bool neg, .slice A n c] 46)).alloc (.cells #[.bool neg2, .slice A2 n2 c2] 46)).alloc (.cells #[.bool false, .slice none 0 0] 46)).alloc (.cells #[.bool false, .slice none 0 0] 46)) where
  a0 := by go_simp
  a1 := by go_simp
  b0 := by go_simp
  b1 := by go_simp
  r0 := by go_simp
  r1 := by go_simp
  s0 := by go_simp
  s1 := by go_simp
  fr0 := by go_simp
  fr1 := by go_simp
  fs0 := by go_simp
  fs1 := by go_simp
  size := by simp
  ty := by
    have := (Ty.new ((w.alloc (.cells #[.bool neg, .slice A n c] 46)).alloc (.cells #[.bool neg2, .slice A2 n2 c2] 46)) #[.bool false, .slice none 0 0] 46 (0, 0)).alloc (.cells #[.bool false, .slice none 0 0] 46)
    simpa using this
  ty2 := by
    have := Ty.new (((w.alloc (.cells #[.bool neg, .slice A n c] 46)).alloc (.cells #[.bool neg2, .slice A2 n2 c2] 46)).alloc (.cells #[.bool false, .slice none 0 0] 46)) #[.bool false, .slice none 0 0] 46 (0, 0)
    simpa using this
  below := ((below_box2 w _ _).alloc (by simp; omega) _).alloc (by simp; omega) _
theorem Box4.next (h : Box4 w neg neg2 A A2 n c n2 c2 wr) (hb : Below wr.heap.size wr w1) : Box4 w neg neg2 A A2 n c n2 c2 w1 where
  a0 := (hb.cell (by have := h.size; show w.heap.size < _; omega)).trans h.a0
  a1 := (hb.cell (by have := h.size; show w.heap.size < _; omega)).trans h.a1
  b0 := (hb.cell (by have := h.size; show w.heap.size + 1 < _; omega)).trans h.b0
  b1 := (hb.cell (by have := h.size; show w.heap.size + 1 < _; omega)).trans h.b1
  r0 := (hb.cell (by have := h.size; show w.heap.size + 1 + 1 < _; omega)).trans h.r0
  r1 := (hb.cell (by have := h.size; show w.heap.size + 1 + 1 < _; omega)).trans h.r1
  s0 := (hb.cell (by exact h.size)).trans h.s0
  s1 := (hb.cell (by exact h.size)).trans h.s1
  fr0 := (hb.frozen (by have := h.size; show w.heap.size + 1 + 1 < _; omega)).trans h.fr0
  fr1 := (hb.frozen (by have := h.size; show w.heap.size + 1 + 1 < _; omega)).trans h.fr1
  fs0 := (hb.frozen (by exact h.size)).trans h.fs0
  fs1 := (hb.frozen (by exact h.size)).trans h.fs1
  size := by have := hb.size; have := h.size; omega
  ty := h.ty.below hb (Nat.le_refl _)
  ty2 := h.ty2.below hb (Nat.le_refl _)
  below := h.below.trans (hb.mono (by have := h.size; omega))
theorem Box4.drew (h : Box4 w neg neg2 A A2 n c n2 c2 wr) : Box4 w neg neg2 A A2 n c n2 c2 wr.drew := h.next ((Below.refl _ _).drew)
/-- What the arguments' boxes hold. -/
abbrev Held22 (w : World) (neg neg2 : Bool) (A A2 : Option Addr) (n c n2 c2 : Nat) (wr : World) : Prop :=
  wr.cell? ⟨w.heap.size, 0, none⟩ = some (.bool neg) ∧ wr.cell? ⟨w.heap.size, 1, none⟩ = some (.slice A n c) ∧ wr.cell? ⟨w.heap.size + 1, 0, none⟩ = some (.bool neg2) ∧ wr.cell? ⟨w.heap.size + 1, 1, none⟩ = some (.slice A2 n2 c2)
theorem Box4.held (h : Box4 w neg neg2 A A2 n c n2 c2 wr) : Held22 w neg neg2 A A2 n c n2 c2 wr := ⟨h.a0, h.a1, h.b0, h.b1⟩
theorem Held22.set {k i : Nat} (h : Held22 w neg neg2 A A2 n c n2 c2 wr) (hk : w.heap.size + 1 < k) (u : Value) : Held22 w neg neg2 A A2 n c n2 c2 (wr.setCell ⟨k, i, none⟩ u) := by
  have e : ∀ (q : Addr), k ≠ q.block → (wr.setCell ⟨k, i, none⟩ u).cell? q = wr.cell? q := fun q hne => World.cell?_setCell_other wr _ q u (fun he => hne (by rw [← he]))
  obtain ⟨h1, h2, h3, h4⟩ := h
  exact ⟨(e _ (by show k ≠ w.heap.size; omega)).trans h1, (e _ (by show k ≠ w.heap.size; omega)).trans h2, (e _ (by show k ≠ w.heap.size + 1; omega)).trans h3, (e _ (by show k ≠ w.heap.size + 1; omega)).trans h4⟩
theorem Box4.heldSet (h : Box4 w neg neg2 A A2 n c n2 c2 wr) (u v : Value) : Held22 w neg neg2 A A2 n c n2 c2 ((wr.setCell ⟨w.heap.size + 1 + 1, 0, none⟩ u).setCell ⟨w.heap.size + 1 + 1, 1, none⟩ v) :=
  (h.held.set (by omega) u).set (by omega) v
theorem Box4.heldSet2 (h : Box4 w neg neg2 A A2 n c n2 c2 wr) (u v u' v' : Value) : Held22 w neg neg2 A A2 n c n2 c2 ((((wr.setCell ⟨w.heap.size + 1 + 1, 0, none⟩ u).setCell ⟨w.heap.size + 1 + 1, 1, none⟩ v).setCell ⟨w.heap.size + 1 + 1 + 1, 0, none⟩ u').setCell ⟨w.heap.size + 1 + 1 + 1, 1, none⟩ v') :=
  ((h.heldSet u v).set (by omega) u').set (by omega) v'
/-- Quotient, rounded toward zero, and remainder. -/
def QuoP (B : Nat) (a b : Int) (w : World) (e : Ending) (w' : World) : Prop :=
  ∃ A1 n1 c1 A2 n2 c2, e = .returned (.tuple #[.agg #[.bool (decide (a.tdiv b < 0)), .slice A1 n1 c1], .agg #[.bool (decide (a.tmod b < 0)), .slice A2 n2 c2], .int .i64 0]) ∧ Dig B w' A1 n1 c1 (digs (a.tdiv b).natAbs) ∧ Dig B w' A2 n2 c2 (digs (a.tmod b).natAbs) ∧ Below w.heap.size w w'
theorem Box4.done {B : Nat} {A' A'' : Option Addr} {n' c' n'' c'' : Nat} {a b : Int} (h : Box4 w neg neg2 A A2 n c n2 c2 wr) (hB : B ≤ w.heap.size) (hd : Dig B wr A' n' c' (digs (a.tdiv b).natAbs)) (hd2 : Dig B wr A'' n'' c'' (digs (a.tmod b).natAbs)) (u v u' v' : Value) :
    QuoP B a b w (.returned (.tuple #[.agg #[.bool (decide (a.tdiv b < 0)), .slice A' n' c'], .agg #[.bool (decide (a.tmod b < 0)), .slice A'' n'' c''], .int .i64 0])) ((((wr.setCell ⟨w.heap.size + 1 + 1, 0, none⟩ u).setCell ⟨w.heap.size + 1 + 1, 1, none⟩ v).setCell ⟨w.heap.size + 1 + 1 + 1, 0, none⟩ u').setCell ⟨w.heap.size + 1 + 1 + 1, 1, none⟩ v') :=
  ⟨A', n', c', A'', n'', c'', rfl, (hd.result (by omega) h.ty _ _).result (by omega) ((h.ty2.setCell _ _).setCell _ _) _ _, (hd2.result (by omega) h.ty _ _).result (by omega) ((h.ty2.setCell _ _).setCell _ _) _ _,
    (((h.below.setCell (by show w.heap.size ≤ w.heap.size + 1 + 1; omega) _).setCell (by show w.heap.size ≤ w.heap.size + 1 + 1; omega) _).setCell (by show w.heap.size ≤ w.heap.size + 1 + 1 + 1; omega) _).setCell (by show w.heap.size ≤ w.heap.size + 1 + 1 + 1; omega) _⟩
end
theorem iv_tdiv (neg neg2 : Bool) (x y : Nat) : iv (!(neg == neg2)) (x / y) = (iv neg x).tdiv (iv neg2 y) ∧ iv neg (x % y) = (iv neg x).tmod (iv neg2 y) := by
  have h1 := Int.tmod_eq_emod_of_nonneg (b := (y : Int)) (Int.natCast_nonneg x)
  cases neg <;> cases neg2 <;> simp [iv, Int.neg_tdiv, Int.tdiv_neg, Int.neg_tmod, Int.tmod_neg, Int.ofNat_tdiv, h1]

set_option maxRecDepth 100000 in
set_option maxHeartbeats 2000000 in
theorem quo_any (B : Nat) (neg neg2 : Bool) (A A2 : Option Addr) (n c n2 c2 : Nat) (xs ys : List Nat) (w : World) (hB : B ≤ w.heap.size) (hx : Dig B w A n c xs) (hy : Dig B w A2 n2 c2 ys) (hn : n ≤ 536870912) (hn2 : n2 ≤ 536870912) (hz : val ys ≠ 0) :
    Calls Try.prog 80 #[.agg #[.bool neg, .slice A n c], .agg #[.bool neg2, .slice A2 n2 c2]] w (QuoP B (iv neg (val xs)) (iv neg2 (val ys)) w) := by
  have hb := Box4.start w neg neg2 A A2 n c n2 c2
  have hx1 := hx.below hb.below (Nat.le_refl _)
  have hy1 := hy.below hb.below (Nat.le_refl _)
  have hq := dzero_any B neg2 A2 n2 c2 ys _ hy1
  rw [decide_eq_false hz] at hq
  have HQ := Lib.hid hq
  have HZ := Lib.hid hz
  have HE := Lib.hid (iv_tdiv neg neg2 (val xs) (val ys))
  clear hq hz
  go_enter Try.func80, Try.ntmps80
  go_wp2_with fail
  refine HQ.out.mono ?_
  rintro e w1 ⟨rfl, hb1⟩
  have hx2 := hx1.below hb1 (Nat.le_refl _)
  have hy2 := hy1.below hb1 (Nat.le_refl _)
  replace hb := hb.next hb1
  obtain ⟨a0, a1, b0, b1⟩ := hb.held
  clear hx1 hy1 hb1 HQ
  go_wp2_with fail
  refine (long_any B A A2 n c n2 c2 xs ys _ hx2 hy2 hn hn2 HZ.out).mono ?_
  rintro e w2 ⟨A3, n3, c3, A4, n4, c4, rfl, h3, h4, hb2⟩
  replace hb := hb.next hb2
  have hbd := hb.drew
  have h3d := h3.drew
  have h4d := h4.drew
  have hn3 : n3 ≤ 1099511627776 := by
    have h8 := h3.len
    have h9 := digs_length_mono (Nat.div_le_self (val xs) (val ys))
    have := digs_len_of hx
    omega
  have hn4 : n4 ≤ 1099511627776 := by
    have h8 := h4.len
    have h9 := digs_length_mono (Nat.mod_le (val xs) (val ys))
    have := digs_len_of hx
    omega
  clear a0 a1 b0 b1 hx2 hy2 hb2 h3 h4 hb
  have hB2 : B ≤ w2.drew.heap.size := by have := hbd.size; omega
  go_wp2_with fail
  go_region_held3 (fun w' => Held22 w neg neg2 A A2 n c n2 c2 w')
    (first | with_reducible exact hbd.held | with_reducible exact hb1.held | with_reducible exact hb2.held | with_reducible exact hb2.heldSet _ _ | with_reducible exact hb2.heldSet2 _ _ _ _)
    (first
      | (go_at_call 69; ((with_reducible refine (from_any B _ A3 n3 c3 _ _ hB2 h3d hn3).mono ?_); rw [val_digs, HE.out.1]; rintro e w5 ⟨A5, n5, c5, rfl, h5, hbw5⟩; have hb1 := hbd.next hbw5; have h4e := h4d.below hbw5 (Nat.le_refl _); have hB3 := Nat.le_trans hB2 hbw5.size))
      | (go_at_call 69; ((with_reducible refine (from_any B _ A4 n4 c4 _ _ hB3 h4e hn4).mono ?_); rw [val_digs, HE.out.2]; rintro e w6 ⟨A6, n6, c6, rfl, h6, hbw6⟩; have h5e := h5.below hbw6 (Nat.le_refl _); have hb2 := hb1.next hbw6; have hr0 := hb2.r0; have hr1 := hb2.r1; have hs0 := hb2.s0; have hs1 := hb2.s1; have hf0 := hb2.fr0; have hf1 := hb2.fr1; have hg0 := hb2.fs0; have hg1 := hb2.fs1)))
  have HF := Lib.hid (fun u v u' v' => hb2.done hB h5e h6 u v u' v')
  clear hb1 hb2 hbd hbw5 hbw6 h3d h4d h4e h5 h6 h5e
  generalize (iv neg (val xs)).tdiv (iv neg2 (val ys)) = q at *
  generalize (iv neg (val xs)).tmod (iv neg2 (val ys)) = r at *
  go_wp2
  exact bodyPost_ret (v := .tuple #[.agg #[.bool (decide (q < 0)), .slice A5 n5 c5], .agg #[.bool (decide (r < 0)), .slice A6 n6 c6], .int .i64 0]) (by simp [results, Try.results80, go_sem, hr0, hr1, hs0, hs1]) rfl (HF.out _ _ _ _)

/-- An exact quotient, or 0 and ErrInexact. -/
noncomputable def exZ (a b : Int) : Int := if b ∣ a then a.tdiv b else 0
noncomputable def exK (a b : Int) : Int := if b ∣ a then 0 else 3
def ExactP (B : Nat) (z k : Int) (w : World) (e : Ending) (w' : World) : Prop :=
  ∃ A n c, e = .returned (.tuple #[.agg #[.bool (decide (z < 0)), .slice A n c], .int .i64 k]) ∧ Dig B w' A n c (digs z.natAbs) ∧ Below w.heap.size w w'
theorem ExactP.of {B : Nat} {z k z' k' : Int} {w : World} {e : Ending} {w' : World} (h : ExactP B z k w e w') (hz : z' = z) (hk : k' = k) : ExactP B z' k' w e w' := by
  subst hz hk; exact h
theorem Box3.done2 {w wr : World} {neg neg2 : Bool} {A A2 : Option Addr} {n c n2 c2 : Nat} {B : Nat} {A' : Option Addr} {n' c' : Nat} {z : Int} (h : Box3 w neg neg2 A A2 n c n2 c2 wr) (hB : B ≤ w.heap.size) (hd : Dig B wr A' n' c' (digs z.natAbs)) (k : Int) :
    ExactP B z k w (.returned (.tuple #[.agg #[.bool (decide (z < 0)), .slice A' n' c'], .int .i64 k])) ((wr.setCell ⟨w.heap.size + 1 + 1, 0, none⟩ (.bool (decide (z < 0)))).setCell ⟨w.heap.size + 1 + 1, 1, none⟩ (.slice A' n' c')) :=
  ⟨A', n', c', rfl, hd.result (by omega) h.ty _ _, (h.below.setCell (by show w.heap.size ≤ w.heap.size + 1 + 1; omega) _).setCell (by show w.heap.size ≤ w.heap.size + 1 + 1; omega) _⟩

set_option maxRecDepth 100000 in
set_option maxHeartbeats 2000000 in
theorem dexact_any (B : Nat) (neg neg2 : Bool) (A A2 : Option Addr) (n c n2 c2 : Nat) (xs ys : List Nat) (w : World) (hB : B ≤ w.heap.size) (hx : Dig B w A n c xs) (hy : Dig B w A2 n2 c2 ys) (hn : n ≤ 536870912) (hn2 : n2 ≤ 536870912) (hz : val ys ≠ 0) :
    Calls Try.prog 64 #[.agg #[.bool neg, .slice A n c], .agg #[.bool neg2, .slice A2 n2 c2]] w (ExactP B (exZ (iv neg (val xs)) (iv neg2 (val ys))) (exK (iv neg (val xs)) (iv neg2 (val ys))) w) := by
  have hb := Box3.start w neg neg2 A A2 n c n2 c2
  have hx1 := hx.below hb.below (Nat.le_refl _)
  have hy1 := hy.below hb.below (Nat.le_refl _)
  have HQ := Lib.hid (quo_any B neg neg2 A A2 n c n2 c2 xs ys _ (by have := hb.below.size; omega) hx1 hy1 hn hn2 hz)
  clear hx1 hy1 hz
  generalize iv neg (val xs) = a at *
  generalize iv neg2 (val ys) = b at *
  go_enter Try.func64, Try.ntmps64
  go_wp2_with fail
  refine HQ.out.mono ?_
  rintro e w1 ⟨A3, n3, c3, A4, n4, c4, rfl, h3, h4, hb1⟩
  replace hb := hb.next hb1
  have hbb : Below w1.heap.size w1 ((w1.alloc (.cells #[.bool (decide (a.tdiv b < 0)), .slice A3 n3 c3] 46)).alloc (.cells #[.bool (decide (a.tmod b < 0)), .slice A4 n4 c4] 46)) :=
    ((Below.refl _ _).alloc (Nat.le_refl _) _).alloc (by simp) _
  have h4b := h4.below hbb (Nat.le_refl _)
  have HZR := Lib.hid (dzero_any B (decide (a.tmod b < 0)) A4 n4 c4 _ _ h4b)
  have hbn := hb.next hbb
  have HK := Lib.hid (show (val (digs (a.tmod b).natAbs) = 0) ↔ b ∣ a by
    rw [val_digs, Int.natAbs_eq_zero]
    exact ⟨Int.dvd_of_tmod_eq_zero, Int.tmod_eq_zero_of_dvd⟩)
  have h3b := h3.below hbb (Nat.le_refl _)
  clear hbb h4b h3 h4 HQ
  by_cases hd : b ∣ a
  · have e1 : exZ a b = a.tdiv b := if_pos hd
    have e2 : exK a b = 0 := if_pos hd
    rw [decide_eq_true (HK.out.2 hd)] at HZR
    have HE := Lib.hid (And.intro e1 e2)
    clear e1 e2 hd
    generalize a.tdiv b = q at *
    generalize a.tmod b = r at *
    go_wp2_with fail
    refine HZR.out.mono ?_
    rintro e w2 ⟨rfl, hb2⟩
    have hb9 := hbn.next hb2
    have h3c := h3b.below hb2 (Nat.le_refl _)
    have hr0 := hb9.r0; have hr1 := hb9.r1; have hf0 := hb9.fr0; have hf1 := hb9.fr1
    have hc := hb2.cell (p := ⟨w1.heap.size, 0, none⟩) (by simp; omega)
    have hc1 := hb2.cell (p := ⟨w1.heap.size, 1, none⟩) (by simp; omega)
    have HF := Lib.hid ((hb9.done2 hB h3c 0).of HE.out.1 HE.out.2)
    have i0 : w2.cell? ⟨w1.heap.size, 0, none⟩ = some (.bool (decide (q < 0))) := by rw [hc]; go_simp
    have i1 : w2.cell? ⟨w1.heap.size, 1, none⟩ = some (.slice A3 n3 c3) := by rw [hc1]; go_simp
    clear hb9 hbn hb hb1 hb2 h3b h3c HZR HK hc hc1
    go_wp2
    exact bodyPost_ret (v := .tuple #[.agg #[.bool (decide (q < 0)), .slice A3 n3 c3], .int .i64 0]) (by simp [results, Try.results64, go_sem, hr0, hr1]) rfl HF.out
  · have e1 : exZ a b = 0 := if_neg hd
    have e2 : exK a b = 3 := if_neg hd
    rw [decide_eq_false (fun h => hd (HK.out.1 h))] at HZR
    have HE := Lib.hid (And.intro e1 e2)
    clear e1 e2 hd
    generalize a.tdiv b = q at *
    generalize a.tmod b = r at *
    go_wp2_with fail
    refine HZR.out.mono ?_
    rintro e w2 ⟨rfl, hb2⟩
    have hb9 := hbn.next hb2
    have hr0 := hb9.r0; have hr1 := hb9.r1; have hf0 := hb9.fr0; have hf1 := hb9.fr1
    have hnil : Dig B w2 none 0 0 (digs (0 : Int).natAbs) := by
      have : digs (0 : Int).natAbs = [] := digs_zero
      rw [this]; exact Dig.nil
    have HF := Lib.hid ((hb9.done2 hB hnil 3).of HE.out.1 HE.out.2)
    clear hb9 hbn hb hb1 hb2 h3b HZR HK hnil
    go_wp2
    exact bodyPost_ret (v := .tuple #[.agg #[.bool (decide ((0 : Int) < 0)), .slice none 0 0], .int .i64 3]) (by simp [results, Try.results64, go_sem, hr0, hr1]) rfl HF.out
theorem dexactC_any (B : Nat) (a b : Int) (A A2 : Option Addr) (n c n2 c2 : Nat) (w : World) (hB : B ≤ w.heap.size) (hx : Dig B w A n c (digs a.natAbs)) (hy : Dig B w A2 n2 c2 (digs b.natAbs)) (hn : n ≤ 536870912) (hn2 : n2 ≤ 536870912) (hb : b ≠ 0) :
    Calls Try.prog 64 #[.agg #[.bool (decide (a < 0)), .slice A n c], .agg #[.bool (decide (b < 0)), .slice A2 n2 c2]] w (ExactP B (exZ a b) (exK a b) w) := by
  have h := dexact_any B (decide (a < 0)) (decide (b < 0)) A A2 n c n2 c2 _ _ w hB hx hy hn hn2 (by rw [val_digs]; omega)
  rw [iv_digs, iv_digs] at h
  exact h
end Go.Proofs.Ytnknidfpkmnncaa
/- The law's value: its walk. -/
namespace Go.Proofs.Ytnknidfpkmnncaa
open Go.RowKit

set_option maxRecDepth 100000 in
set_option maxHeartbeats 4000000 in
theorem value_any (B : Nat) (A : Option Addr) (n c : Nat) (al : List Tm) (x : Ex) (M E : Nat) (w : World) (hB : B ≤ w.heap.size) (h : PolyC B w A n c al) (hn : n ≤ 1073741824) (hx : XSmall x M) (hE : ∀ p ∈ al, ESmall p.2 E) (hM : 0 < M) (hM2 : M ≤ 2147483648) (hE2 : E ≤ 1073741824) (hbig : l1 al * M ^ (4 * E) < big) :
    Calls Try.prog 27 #[.slice A n c, .agg #[.int .i64 x.1, .int .i64 x.2.1, .int .i64 x.2.2.1, .int .i64 x.2.2.2]] w (IntP B (ev x al) w) := by
  have hcap := h.cap
  have HX := Lib.hid hx
  have HE := Lib.hid hE
  have HBG := Lib.hid hbig
  have HMB := Lib.hid (show M < big from Nat.lt_of_le_of_lt hM2 (lt_big (by omega)))
  clear hx hE hbig
  go_enter Try.func27, Try.ntmps27
  go_wp2_with fail
  have hb0 := below_box2 w (.cells #[.int .i64 x.1, .int .i64 x.2.1, .int .i64 x.2.2.1, .int .i64 x.2.2.2] 34) (.cells #[.bool false, .slice none 0 0] 46)
  have hxb0 : ((w.alloc (.cells #[.int .i64 x.1, .int .i64 x.2.1, .int .i64 x.2.2.1, .int .i64 x.2.2.2] 34)).alloc (.cells #[.bool false, .slice none 0 0] 46)).heap[w.heap.size]? = some (.cells #[.int .i64 x.1, .int .i64 x.2.1, .int .i64 x.2.2.1, .int .i64 x.2.2.2] 34 (0, 0)) := by
    rw [Below.heap_alloc _ _ _ (by simp)]; exact heap_alloc_new w _
  have hrb0 : ((w.alloc (.cells #[.int .i64 x.1, .int .i64 x.2.1, .int .i64 x.2.2.1, .int .i64 x.2.2.2] 34)).alloc (.cells #[.bool false, .slice none 0 0] 46)).heap[w.heap.size + 1]? = some (.cells #[.bool false, .slice none 0 0] 46 (0, 0)) := by
    have := heap_alloc_new (w.alloc (.cells #[.int .i64 x.1, .int .i64 x.2.1, .int .i64 x.2.2.1, .int .i64 x.2.2.2] 34)) (.cells #[.bool false, .slice none 0 0] 46)
    simpa using this
  have HXB := Lib.hid hxb0
  have HRB := Lib.hid hrb0
  clear hxb0 hrb0
  refine (iof_any B 0 _ (Nat.le_trans hB hb0.size) (by omega) (by omega)).mono ?_
  rintro e w1 ⟨A1, n1, c1, rfl, h1, hb1⟩
  have hz1 : w.heap.size + 1 < w1.heap.size := by have := hb1.size; simp at this; omega
  have hV0 : VSt B w x w1.heap.size 0 (w1.alloc (.cells #[.bool false, .slice A1 n1 c1] 46)) := by
    have hal : Below w1.heap.size w1 (w1.alloc (.cells #[.bool false, .slice A1 n1 c1] 46)) := (Below.refl _ _).alloc (Nat.le_refl _) _
    have hb2 := hb1.trans (hal.mono hb1.size)
    exact ⟨(hb2.block _ (heap_lt HXB.out)).trans HXB.out, (hb2.block _ (heap_lt HRB.out)).trans HRB.out, IBox.new (z := 0) h1, hz1, hb0.trans (hb2.mono (by simp; omega))⟩
  have HV0 := Lib.hid hV0
  clear hV0 HXB HRB hb1 h1 hb0
  obtain ⟨g5, hg5⟩ : ∃ g, g = w1.heap.size := ⟨_, rfl⟩
  rw [← hg5] at HV0 hz1
  go_wp2_with fail
  rw [← hg5]
  clear hg5
  go_loopw [6] (fun i wr => ∃ k : Nat, k ≤ n ∧ i = .int .i64 k ∧ VSt B w x g5 (ev x (al.take k)) wr) (fun i _ => n - (intOf i).toNat)
  case atStart => exact ⟨0, Nat.zero_le _, rfl, HV0.out⟩
  case round =>
    obtain ⟨W0, rfl⟩ : ∃ y, y = wr := ⟨_, rfl⟩
    obtain ⟨k, hk, rfl, hV⟩ := hrel
    by_cases hkn : k < n
    · obtain ⟨b, off, rfl, hs1, HT⟩ := h.term (by omega)
      obtain ⟨t, p, hp, hte, hcf, hh2, hh4⟩ := HT k hkn
      have hbV := hV.below
      have hh2' := held2_below hh2 hbV hs1
      obtain ⟨c0, c1⟩ := hh2'
      have hcf2 := hcf.below hbV (Nat.le_refl _)
      have hE4 := Lib.hid (show ∀ j, j < 4 → w.cell? ⟨b, off + k * 6 + 2 + j, none⟩ = some (.int .i64 (ex p.2 j)) from fun j hj => by
        rw [← hte]
        match j, hj with
        | 0, _ => exact hh4.1
        | 1, _ => exact hh4.2.1
        | 2, _ => exact hh4.2.2.1
        | 3, _ => exact hh4.2.2.2)
      rw [hcf2.1] at c0
      have hd := hcf2.2
      have HP := Lib.hid hp
      have i0 : (0 : Int) ≤ (k : Int) := by omega
      have i1 : (k : Int) < (n : Int) := by omega
      have hal : Below W0.heap.size W0 (W0.alloc (.cells #[.bool (decide (p.1 < 0)), .slice t.A t.n t.c] 46)) := (Below.refl _ _).alloc (Nat.le_refl _) _
      have HV1 := Lib.hid (hV.later hal)
      have HI1 := Lib.hid (IBox.new hd)
      have hgW : w.heap.size + 1 < W0.heap.size := Nat.lt_of_lt_of_le hV.hg (Nat.le_of_lt hV.vb.lt)
      have hg5W : g5 < W0.heap.size := hV.vb.lt
      clear HT hh2 hh4 hcf hcf2 hd hbV hp hte
      obtain ⟨g7, hg7⟩ : ∃ g, g = W0.heap.size := ⟨_, rfl⟩
      rw [← hg7] at HI1 hgW hg5W
      go_wp2_with fail
      rw [← hg7]
      have hg7s : g7 = W0.heap.size := hg7
      have HG7 := Lib.hid hg7
      clear hg7 hg7s
      have hES := Lib.hid (HE.out p (List.mem_of_getElem? HP.out))
      have HPL := Lib.hid (show p.1.natAbs * M ^ (4 * E) < big from Nat.lt_of_le_of_lt (Nat.mul_le_mul_right _ (l1_mem (List.mem_of_getElem? HP.out))) HBG.out)
      go_loopw [8] (fun i wq => ∃ j : Nat, j ≤ 4 ∧ i = .int .i64 j ∧ VSt B w x g5 (ev x (al.take k)) wq ∧ IBox B wq g7 (tk x p j)) (fun i _ => 4 - (intOf i).toNat)
      case atStart => exact ⟨0, by omega, rfl, HV1.out, HI1.out⟩
      case round =>
        obtain ⟨W2, rfl⟩ : ∃ y, y = wr := ⟨_, rfl⟩
        obtain ⟨j, hj, rfl, hVj, hIj⟩ := hrel
        by_cases hj4 : j < 4
        · have j0 : (0 : Int) ≤ (j : Int) := by omega
          have j1 : (j : Int) < 4 := by omega
          have HCX := Lib.hid (hE4.out j hj4)
          have hEj := Lib.hid (hES.out j hj4)
          have HXJ := Lib.hid (HX.out j hj4)
          obtain ⟨N, hN⟩ : ∃ N, N = (ex p.2 j).toNat := ⟨_, rfl⟩
          have hNE : N ≤ E := by rw [hN]; exact hEj.out
          obtain ⟨ee, hee⟩ : ∃ ee, ex p.2 j = ee := ⟨_, rfl⟩
          have HCE := Lib.hid (show w.cell? ⟨b, off + k * 6 + 2 + j, none⟩ = some (.int .i64 ee) by rw [← hee]; exact HCX.out)
          have hNe : (ee ≤ 0 ∧ N = 0) ∨ (0 < ee ∧ (N : Int) = ee) := by rw [hee] at hN; omega
          have HNN := Lib.hid hN
          clear hee hN
          go_wp2_with fail
          go_loopw [9] (fun i wq => ∃ m : Nat, m ≤ N ∧ i = .int .i64 m ∧ VSt B w x g5 (ev x (al.take k)) wq ∧ IBox B wq g7 (tk x p j * ex x j ^ m)) (fun i _ => N - (intOf i).toNat)
          case atStart => exact ⟨0, by omega, rfl, hVj, by simpa using hIj⟩
          case round =>
            clear hVj hIj
            obtain ⟨m, hm, rfl, hVm, hIm⟩ := hrel
            have hce := (hVm.below.cell (p := ⟨b, off + k * 6 + 2 + j, none⟩) hs1).trans HCE.out
            by_cases hmN : m < N
            · have hme : (m : Int) < ee := by omega
              have hxc := hVm.xcell j hj4
              obtain ⟨A7, n7, c7, d0, d1, f0, f1, hd7⟩ := hIm.cells
              have hTB := Lib.hid (Nat.lt_of_le_of_lt (tk_le HX.out hES.out hM j m hj4 (by omega)) HPL.out)
              have HTY := Lib.hid (show tk x p j * ex x j ^ m * ex x j = tk x p j * ex x j ^ (m + 1) by rw [Int.pow_succ, Int.mul_assoc])
              have HYB := Lib.hid (show (ex x j).natAbs < big from Nat.lt_of_le_of_lt HXJ.out HMB.out)
              have hy1 : -9223372036854775808 ≤ ex x j := by have := HXJ.out; omega
              have hy2 : ex x j ≤ 9223372036854775807 := by have := HXJ.out; omega
              obtain ⟨T', hT'⟩ : ∃ T', T' = tk x p j * ex x j ^ (m + 1) := ⟨_, rfl⟩
              rw [← hT'] at HTY
              have HT' := Lib.hid hT'
              clear hT'
              generalize tk x p j * ex x j ^ m = T at *
              generalize ex x j = y at *
              have hVd := hVm.later (w1 := wr.drew) ((Below.refl _ _).drew)
              have hId := hIm.below (w' := wr.drew) ((Below.refl _ _).drew)
              have hd7d := hd7.drew
              have hBq : B ≤ wr.drew.heap.size := Nat.le_trans hB hVd.below.size
              go_upto_region 12 with (fail)
              go_region_with (first
                | (go_at_call 29; (with_reducible refine (iof_any B y _ hBq hy1 hy2).mono ?_); rintro e3 w3 ⟨A3, n3, c3, rfl, h3, hb3⟩; have hV3 := hVd.later hb3; have hI3 := hId.below hb3; have hd73 := hd7d.below hb3 (Nat.le_refl _); have hB3 := Nat.le_trans hBq hb3.size; have d03 := (hb3.cell (p := ⟨g7, 0, none⟩) hId.lt).trans d0; have d13 := (hb3.cell (p := ⟨g7, 1, none⟩) hId.lt).trans d1)
                | (go_at_call 28; (with_reducible refine (imulC_any B T y A7 A3 n7 c7 n3 c3 _ hB3 hd73 h3 hTB.out HYB.out).mono ?_); rw [HTY.out]; rintro e4 w4 ⟨A4, n4, c4, rfl, h4, hb4⟩; have hV4 := hV3.later hb4; have hI4 := hI3.below hb4; obtain ⟨A5, n5, c5, k0, k1, l0, l1, _⟩ := hI4.cells))
              all_goals
                have hI5 := hI4.store (by omega) h4
                have hV5 := hV4.tstore hB hgW hI4.ty (by omega) (.bool (decide (T' < 0))) (.slice A4 n4 c4)
                have HI5 := Lib.hid hI5
                have HV5 := Lib.hid hV5
                clear hI5 hV5 hI4 hV4 hI3 hV3 hd73 h3 h4 hb3 hb4 d03 d13 k0 k1 l0 l1 hVd hId hd7d hd7 d0 d1 f0 f1 hxc hVm hIm
                go_wp2
                go_roundw
                case rel => exact ⟨m + 1, by omega, by go_num, HV5.out, by rw [← HT'.out]; exact HI5.out⟩
                case measure => simp [intOf]; omega
            · have hme : ¬ ((m : Int) < ee) := by omega
              obtain rfl : m = N := by omega
              have HV5 := Lib.hid hVm
              have HI5 := Lib.hid (show IBox B wr g7 (tk x p (j + 1)) by
                have h9 := hIm
                rw [HNN.out] at h9
                exact h9)
              clear hVm hIm
              go_wp2
              go_roundw
              case rel => exact ⟨j + 1, by omega, by go_num, HV5.out, HI5.out⟩
              case measure => simp [intOf]; omega
        · obtain rfl : j = 4 := by omega
          obtain ⟨A7, n7, c7, d0, d1, _, _, hd7⟩ := hIj.cells
          obtain ⟨A5, n5, c5, k0, k1, l0, l1, hd5⟩ := hVj.vb.cells
          have HSV := Lib.hid (show ev x (al.take k) + tk x p 4 = ev x (al.take (k + 1)) from (ev_step HP.out).symm)
          have HSB := Lib.hid (show (ev x (al.take k)).natAbs < big from Nat.lt_of_le_of_lt (ev_take_le HX.out HE.out hM k) HBG.out)
          have HTB := Lib.hid (show (tk x p 4).natAbs < big from Nat.lt_of_le_of_lt (evT_le HX.out hES.out hM) HPL.out)
          have HC := Lib.hid (iaddC_any B (ev x (al.take k)) (tk x p 4) A5 A7 n5 c5 n7 c7 W2 (Nat.le_trans hB hVj.below.size) hd5 hd7 HSB.out HTB.out)
          rw [HSV.out] at HC
          have HVj := Lib.hid hVj
          generalize ev x (al.take k) = V at *
          generalize tk x p 4 = T at *
          obtain ⟨V', hV'⟩ : ∃ V', V' = ev x (al.take (k + 1)) := ⟨_, rfl⟩
          rw [← hV'] at HC
          have HV' := Lib.hid hV'
          clear hV' hVj hIj hd7 hd5
          go_wp2_with fail
          refine HC.out.mono ?_
          rintro e w9 ⟨A9, n9, c9, rfl, h9, hb9⟩
          have hV9 := HVj.out.later hb9
          obtain ⟨_, _, _, k0, k1, l0, l1, _⟩ := hV9.vb.cells
          have HV10 := Lib.hid (hV9.vstore hB h9)
          clear hV9 h9 hb9
          go_wp2
          go_roundw
          case rel => exact ⟨k + 1, by omega, by go_num, by rw [← HV'.out]; exact HV10.out⟩
          case measure => simp [intOf]; omega
    · obtain rfl : k = n := by omega
      have hV9 := hV
      rw [List.take_of_length_le (by rw [h.len]; exact Nat.le_refl _)] at hV9
      obtain ⟨A5, n5, c5, k0, k1, l0, l1, hd5⟩ := hV9.vb.cells
      have r0 : W0.cell? ⟨w.heap.size + 1, 0, none⟩ = some (.bool false) := by rw [cell_of_row _ _ 0 _ _ _ hV9.rb]; rfl
      have r1 : W0.cell? ⟨w.heap.size + 1, 1, none⟩ = some (.slice none 0 0) := by rw [cell_of_row _ _ 1 _ _ _ hV9.rb]; rfl
      have q0 : W0.frozen? ⟨w.heap.size + 1, 0, none⟩ = false := by simp [World.frozen?, hV9.rb]
      have q1 : W0.frozen? ⟨w.heap.size + 1, 1, none⟩ = false := by simp [World.frozen?, hV9.rb]
      have hT := Lib.hid (show Ty W0 (w.heap.size + 1) 46 from ⟨_, _, hV9.rb⟩)
      have HD := Lib.hid hd5
      have HBL := Lib.hid hV9.below
      generalize ev x al = V at *
      clear hV hV9 hd5 HV0
      go_wp2
      refine bodyPost_ret (v := .agg #[.bool (decide (V < 0)), .slice A5 n5 c5]) (by simp [results, Try.results27, go_sem, r0, r1]) rfl ?_
      exact ⟨A5, n5, c5, rfl, HD.out.result (by omega) hT.out _ _, (HBL.out.setCell (by simp) _).setCell (by simp) _⟩
end Go.Proofs.Ytnknidfpkmnncaa
/- The reference's At, the law's wide. -/
namespace Go.Proofs.Ytnknidfpkmnncaa
open Go.RowKit

set_option maxRecDepth 100000 in
set_option maxHeartbeats 4000000 in
theorem at_any' (B : Nat) (A : Option Addr) (n c : Nat) (L : List Mono) (x : Ex) (M E : Nat) (w : World) (h0 : MonoR B w A n c L) (hn : n ≤ 1073741824) (hx : XSmall x M) (hE : ∀ p ∈ L, ESmall p.2 E) (hM : 0 < M) (hE2 : E ≤ 255) (hbig : l1 L * M ^ (4 * E) < 4611686018427387904) :
    Calls Try.prog 20 #[.slice A n c, .agg #[.int .i64 x.1, .int .i64 x.2.1, .int .i64 x.2.2.1, .int .i64 x.2.2.2]] w (ValP (.int .i64 (ev x L)) w) := by
  have hcap := h0.row.cap
  have HX := Lib.hid hx
  have HE := Lib.hid hE
  have HBG := Lib.hid hbig
  have hb0 : Below w.heap.size w (w.alloc (.cells #[.int .i64 x.1, .int .i64 x.2.1, .int .i64 x.2.2.1, .int .i64 x.2.2.2] 34)) := (Below.refl _ _).alloc (Nat.le_refl _) _
  have h := h0.below hb0 (Nat.le_refl _)
  have HXC := Lib.hid (show ∀ k, k < 4 → (w.alloc (.cells #[.int .i64 x.1, .int .i64 x.2.1, .int .i64 x.2.2.1, .int .i64 x.2.2.2] 34)).cell? ⟨w.heap.size, k, none⟩ = some (.int .i64 (ex x k)) from fun k hk => ex_cell _ _ x.1 x.2.1 x.2.2.1 x.2.2.2 (heap_alloc_new w _) k hk)
  clear hx hE hbig h0
  go_enter Try.func20, Try.ntmps20
  go_wp2_with fail
  obtain ⟨W, hW⟩ : ∃ W, W = (w.alloc (.cells #[.int .i64 x.1, .int .i64 x.2.1, .int .i64 x.2.2.1, .int .i64 x.2.2.2] 34)) := ⟨_, rfl⟩
  rw [← hW] at h HXC hb0 ⊢
  clear hW
  go_loop [5, 6] (fun v i => ∃ k : Nat, k ≤ n ∧ i = .int .i64 k ∧ v = .int .i64 (ev x (L.take k))) (fun _ i => n - (intOf i).toNat)
  case atStart => exact ⟨0, Nat.zero_le _, rfl, by simp [ev]⟩
  case round =>
    obtain ⟨k, hk, rfl, rfl⟩ := hrel
    have hVB := ev_take_le HX.out HE.out hM k
    by_cases hkn : k < n
    · obtain ⟨b, off, rfl, hbs, hc⟩ := h.cells (by omega)
      obtain ⟨p, hp, hc0, hcj⟩ := hc k hkn
      have hr := h.rng p (List.mem_of_getElem? hp)
      have hr1 := hr.1
      have hr2 := hr.2.1
      have HR := Lib.hid hr.2.2
      have HP := Lib.hid hp
      have HC := Lib.hid hcj
      have i0 : (0 : Int) ≤ (k : Int) := by omega
      have i1 : (k : Int) < (n : Int) := by omega
      have hES := Lib.hid (HE.out p (List.mem_of_getElem? hp))
      have HPL := Lib.hid (show p.1.natAbs * M ^ (4 * E) < 4611686018427387904 from Nat.lt_of_le_of_lt (Nat.mul_le_mul_right _ (l1_mem (List.mem_of_getElem? hp))) HBG.out)
      have HSV := Lib.hid (show ev x (L.take k) + tk x p 4 = ev x (L.take (k + 1)) from (ev_step hp).symm)
      have hv1 : -4611686018427387904 < ev x (L.take k) ∧ ev x (L.take k) < 4611686018427387904 := by have := HBG.out; omega
      clear hc hcj hp hr hVB
      generalize ev x (L.take k) = V at *
      obtain ⟨hv1, hv2⟩ := hv1
      go_wp2_with fail
      go_loop [7, 8] (fun t i => ∃ j : Nat, j ≤ 4 ∧ i = .int .i64 j ∧ t = .int .i64 (tk x p j)) (fun _ i => 4 - (intOf i).toNat)
      case atStart => exact ⟨0, by omega, rfl, rfl⟩
      case round =>
        obtain ⟨j, hj, rfl, rfl⟩ := hrel
        by_cases hj4 : j < 4
        · have j0 : (0 : Int) ≤ (j : Int) := by omega
          have j1 : (j : Int) < 4 := by omega
          have hce := HC.out j hj4
          have hxc := HXC.out j hj4
          have hEj := Lib.hid (hES.out j hj4)
          have he0 := (HR.out j).1
          have he1 := (HR.out j).2
          obtain ⟨N, hN⟩ : ∃ N, N = (ex p.2 j).toNat := ⟨_, rfl⟩
          have hNE : N ≤ E := by rw [hN]; exact hEj.out
          have hNe : (N : Int) = ex p.2 j := by omega
          have HNN := Lib.hid hN
          rw [← hNe] at hce
          clear hNe hN he0 he1
          have hN255 : N ≤ 255 := by omega
          go_wp2_with fail
          go_loop [7, 9] (fun t i => ∃ m : Nat, m ≤ N ∧ i = .int .i64 m ∧ t = .int .i64 (tk x p j * ex x j ^ m)) (fun _ i => N - (intOf i).toNat)
          case atStart => exact ⟨0, by omega, rfl, by simp⟩
          case round =>
            obtain ⟨m, hm, rfl, rfl⟩ := hrel
            by_cases hmN : m < N
            · have hTB := tk_le HX.out hES.out hM j (m + 1) hj4 (by omega)
              have hTB2 := HPL.out
              obtain ⟨T', hT'⟩ : ∃ T', T' = tk x p j * ex x j ^ (m + 1) := ⟨_, rfl⟩
              have hTY : tk x p j * ex x j ^ m * ex x j = T' := by rw [hT', Int.pow_succ, Int.mul_assoc]
              rw [← hT'] at hTB
              have HT' := Lib.hid hT'
              have ht1 : -4611686018427387904 < T' := by omega
              have ht2 : T' < 4611686018427387904 := by omega
              clear hT' hTB hTB2
              generalize tk x p j * ex x j ^ m = T at *
              generalize ex x j = y at *
              go_wp2
              go_round
              case rel => exact ⟨m + 1, by omega, by go_num, by rw [← HT'.out]⟩
              case measure => simp [intOf]; omega
            · obtain rfl : m = N := by omega
              have HI5 := Lib.hid (show tk x p j * ex x j ^ m = tk x p (j + 1) by
                rw [HNN.out]; rfl)
              go_wp2
              go_round
              case rel => exact ⟨j + 1, by omega, by go_num, by rw [HI5.out]⟩
              case measure => simp [intOf]; omega
        · obtain rfl : j = 4 := by omega
          have hTB := evT_le HX.out hES.out hM
          have hTB2 := HPL.out
          unfold evT at hTB
          have ht : -4611686018427387904 < tk x p 4 ∧ tk x p 4 < 4611686018427387904 := by omega
          clear hTB hTB2
          generalize tk x p 4 = T at *
          obtain ⟨ht1, ht2⟩ := ht
          go_wp2
          go_round
          case rel => exact ⟨k + 1, by omega, by go_num, by rw [← HSV.out]⟩
          case measure => simp [intOf]; omega
    · obtain rfl : k = n := by omega
      have HF := Lib.hid (show ev x (L.take k) = ev x L by rw [List.take_of_length_le (by rw [h.lenL]; exact Nat.le_refl _)])
      clear hVB
      go_wp2
      go_ret
      exact ⟨by first | rfl | (rw [HF.out]; rfl), hb0⟩

theorem tmod7 (a : Int) : -6 ≤ a.tmod 7 ∧ a.tmod 7 ≤ 6 := by
  have h1 := Int.natAbs_tmod a 7
  have h2 : a.natAbs % (7 : Int).natAbs < 7 := Nat.mod_lt _ (by decide)
  omega
set_option maxRecDepth 100000 in
set_option maxHeartbeats 1000000 in
theorem wide_any (a : Ex) (w : World) (ha : ∀ j, j < 4 → -128 ≤ ex a j ∧ ex a j ≤ 127) :
    Calls Try.prog 19 #[.agg #[.int .i8 a.1, .int .i8 a.2.1, .int .i8 a.2.2.1, .int .i8 a.2.2.2]] w (ValP (.agg #[.int .i64 (a.1.tmod 7), .int .i64 (a.2.1.tmod 7), .int .i64 (a.2.2.1.tmod 7), .int .i64 (a.2.2.2.tmod 7)]) w) := by
  obtain ⟨a0, a1, a2, a3⟩ := a
  have h0 := ha 0 (by omega)
  have h1 := ha 1 (by omega)
  have h2 := ha 2 (by omega)
  have h3 := ha 3 (by omega)
  simp only [ex] at h0 h1 h2 h3
  obtain ⟨h00, h01⟩ := h0
  obtain ⟨h10, h11⟩ := h1
  obtain ⟨h20, h21⟩ := h2
  obtain ⟨h30, h31⟩ := h3
  obtain ⟨m00, m01⟩ := tmod7 a0
  obtain ⟨m10, m11⟩ := tmod7 a1
  obtain ⟨m20, m21⟩ := tmod7 a2
  obtain ⟨m30, m31⟩ := tmod7 a3
  go_enter Try.func19, Try.ntmps19
  go_wp2
  refine bodyPost_ret (v := .agg #[.int .i64 (a0.tmod 7), .int .i64 (a1.tmod 7), .int .i64 (a2.tmod 7), .int .i64 (a3.tmod 7)]) (by simp [results, Try.results19, go_sem]) rfl ?_
  exact ⟨rfl, below_box2 w _ _⟩
end Go.Proofs.Ytnknidfpkmnncaa
/- The law's Canonical, is, num. -/
namespace Go.Proofs.Ytnknidfpkmnncaa
open Go.RowKit

/-- The cells that Canonical's test reads at the first term. -/
abbrev HeldQ (w' : World) (g b o : Nat) (neg : Bool) (A : Option Addr) (n c : Nat) (A2 : Option Addr) (n2 c2 : Nat) : Prop :=
  w'.cell? ⟨g, 0, none⟩ = some (.bool neg) ∧ w'.cell? ⟨g, 1, none⟩ = some (.slice A n c) ∧ w'.cell? ⟨b, o, none⟩ = some (.bool neg) ∧ w'.cell? ⟨b, o + 1, none⟩ = some (.slice A2 n2 c2)
theorem heldQ_below {w w' : World} {g b o : Nat} {neg : Bool} {A : Option Addr} {n c : Nat} {A2 : Option Addr} {n2 c2 : Nat} (h : HeldQ w g b o neg A n c A2 n2 c2) (hb : Below w.heap.size w w') (hg : g < w.heap.size) (hlt : b < w.heap.size) : HeldQ w' g b o neg A n c A2 n2 c2 := by
  obtain ⟨hc, _⟩ := bcell hb
  unfold HeldQ
  rw [hc _ _ hg, hc _ _ hg, hc _ _ hlt, hc _ _ hlt]
  exact h

set_option maxRecDepth 100000 in
set_option maxHeartbeats 4000000 in
theorem canonical_any (B : Nat) (A : Option Addr) (n c : Nat) (al : List Tm) (w : World) (hB : B ≤ w.heap.size) (h : PolyC B w A n c al) (hn : n ≤ 1073741824) (hC : Canon al) (hl : l1 al < big) :
    Calls Try.prog 23 #[.slice A n c] w (ValP (.bool true) w) := by
  have hcap := h.cap
  have HC := Lib.hid hC
  have HL := Lib.hid hl
  clear hC hl
  go_enter Try.func23, Try.ntmps23
  go_wp2_with fail
  go_loopw [3] (fun i wr => ∃ k : Nat, k ≤ n ∧ i = .int .i64 k ∧ Below w.heap.size w wr) (fun i _ => n - (intOf i).toNat)
  case atStart => exact ⟨0, Nat.zero_le _, rfl, Below.refl _ _⟩
  case round =>
    obtain ⟨W0, rfl⟩ : ∃ y, y = wr := ⟨_, rfl⟩
    obtain ⟨k, hk, rfl, hb⟩ := hrel
    by_cases hkn : k < n
    · obtain ⟨b, off, rfl, hs1, HT⟩ := h.term (by omega)
      obtain ⟨t, p, hp, hte, hcf, hh2, hh4⟩ := HT k hkn
      have hbw := hb.size
      obtain ⟨c0, c1⟩ := held2_below hh2 hb hs1
      have hcf2 := hcf.below hb (Nat.le_refl _)
      have HCW := Lib.hid (hcf2.wide (Nat.lt_of_le_of_lt (l1_mem (List.mem_of_getElem? hp)) HL.out))
      have hlen := hcf2.2.len
      rw [hcf2.1] at c0
      have hmem := List.mem_of_getElem? hp
      have HV := Lib.hid (validE_iff.1 (HC.out.2 p hmem).2)
      have HZ := Lib.hid (HC.out.2 p hmem).1
      have HTE := Lib.hid hte
      have HP := Lib.hid hp
      have i0 : (0 : Int) ≤ (k : Int) := by omega
      have i1 : (k : Int) < (n : Int) := by omega
      have hq0 := Lib.hid (held4_below hh4 hb hs1)
      have HHT := Lib.hid HT
      have HCX := Lib.hid (show ∀ W : World, Below w.heap.size w W → ∀ j, j < 4 → W.cell? ⟨b, off + k * 6 + 2 + j, none⟩ = some (.int .i64 (ex p.2 j)) from fun W hbW j hj => by
        rw [← hte]
        have h9 := held4_below hh4 hbW hs1
        match j, hj with
        | 0, _ => exact h9.1
        | 1, _ => exact h9.2.1
        | 2, _ => exact h9.2.2.1
        | 3, _ => exact h9.2.2.2)
      have HNL := Lib.hid hlen
      have HNEG := Lib.hid hcf2.1
      clear HT hcf hh2 hte hlen hmem hp hh4
      have HNO := Lib.hid (show Calls Try.prog 44 #[.agg #[.bool (decide (p.1 < 0)), .slice t.A t.n t.c]] W0 (IntP B p.1 W0) by
        have h9 := inormal_any B (decide (p.1 < 0)) t.A t.n t.c _ W0 (Nat.le_trans hB hbw) hcf2.2 HCW.out.2
        rw [iv_digs] at h9
        exact h9)
      clear hcf2
      go_wp2_with fail
      refine HNO.out.mono ?_
      rintro e w1 ⟨A1, n1, ca, rfl, h1, hb1⟩
      have hn1 : n1 = t.n := by rw [← h1.len]; exact HNL.out
      subst hn1
      have hal : Below w1.heap.size w1 (w1.alloc (.cells #[.bool (decide (p.1 < 0)), .slice A1 t.n ca] 46)) := (Below.refl _ _).alloc (Nat.le_refl _) _
      have hb2 := hb1.trans (hal.mono hb1.size)
      have hI := IBox.new (z := p.1) h1
      obtain ⟨g, hg⟩ : ∃ g, g = w1.heap.size := ⟨_, rfl⟩
      obtain ⟨W2, hW2⟩ : ∃ W2, W2 = (w1.alloc (.cells #[.bool (decide (p.1 < 0)), .slice A1 t.n ca] 46)) := ⟨_, rfl⟩
      have q0 : W2.cell? ⟨g, 0, none⟩ = some (.bool (decide (p.1 < 0))) := by rw [hW2, hg, cell_of_row _ _ 0 _ _ _ (heap_alloc_new w1 _)]; rfl
      have q1 : W2.cell? ⟨g, 1, none⟩ = some (.slice A1 t.n ca) := by rw [hW2, hg, cell_of_row _ _ 1 _ _ _ (heap_alloc_new w1 _)]; rfl
      have hgl : g < W2.heap.size := by rw [hW2, hg]; simp
      have hdw := h1.below hal (Nat.le_refl _)
      rw [← hW2] at hb2 hdw
      have hbl : b < W0.heap.size := Nat.lt_of_lt_of_le hs1 hbw
      have hb3 := hb.trans (hb2.mono hbw)
      have c0' := (hb2.cell (p := ⟨b, off + k * 6, none⟩) hbl).trans c0
      have c1' := (hb2.cell (p := ⟨b, off + k * 6 + 1, none⟩) hbl).trans c1
      have hbl2 : b < W2.heap.size := Nat.lt_of_lt_of_le hbl hb2.size
      go_upto_region 5 with (fail)
      rw [← hg, ← hW2]
      clear hW2 hg hI hal hb1 h1 c0 c1
      have hS0 : HeldQ W2 g b (off + k * 6) (decide (p.1 < 0)) A1 t.n ca t.A t.n t.c := ⟨q0, q1, c0', c1'⟩
      have hS1 : HeldQ W2.drew g b (off + k * 6) (decide (p.1 < 0)) A1 t.n ca t.A t.n t.c := hS0
      have hdd := hdw.drew
      have hsg : (p.1.sign == 0) = false := by
        rw [beq_eq_false_iff_ne]; exact fun e => HZ.out (Int.sign_eq_zero_iff_zero.1 e)
      have HSG := Lib.hid (show (iv (decide (p.1 < 0)) (val (digs p.1.natAbs))).sign = p.1.sign by rw [iv_digs])
      have hnn : ((t.n : Int) != (t.n : Int)) = false := by simp
      have hbb : (decide (p.1 < 0) != decide (p.1 < 0)) = false := by simp
      clear q0 q1 c0' c1' hdw
      rcases Nat.eq_zero_or_pos k with hk0 | hk0
      · have hg0 : decide ((0 : Int) < (k : Int)) = false := by rw [decide_eq_false_iff_not]; omega
        have hg1 : decide (0 < k) = false := by rw [decide_eq_false_iff_not]; omega
        clear hk0
        refine wp_region_held_drew (S := fun w' => HeldQ w' g b (off + k * 6) (decide (p.1 < 0)) A1 t.n ca t.A t.n t.c) (by kernel_rfl) hS1 (fun hHeld => ?_)
        first | (refine wpAnyH_take (i := 0) (oi := ({ dst := some 18, op := Op.load 46 (Operand.tmp 4), type := 46, pos := "law.go:48", after := #[], guard := none } : Oper)) (v := ?v0) rfl (by kernel_rfl) (by kernel_rfl) (by kernel_rfl) (fun _ _ _ h => h) (Or.inl ⟨by rfl, ?hy0⟩) (by assumption) ?rest0; case hy0 => ((intro w' hSw); (try dsimp only at hSw); go_simp; (try with_reducible rfl))) | fail
        (try simp only [Act.put, List.setIfInBounds_toArray, List.set_cons_zero, List.set_cons_succ])
        refine wpAnyH_ready (rs := [1]) (by kernel_rfl) (by simp) ?_
        refine AllReadyH.cons (o := ({ dst := some 19, op := Op.call { callee := Callee.value (Operand.func 51), args := #[Operand.tmp 18], argTypes := #[46] }, type := 3, pos := "law.go:48", after := #[{ on := 0, ground := Ground.data }], guard := none } : Oper)) rfl (fun K hK => ?_) AllReadyH.nil
        go_simp
        refine (isign_any B _ _ _ _ _ _ hdd).mono ?_
        rw [HSG.out]
        rintro e w5 ⟨rfl, hb5⟩
        have hS5 := heldQ_below hS1 hb5 hgl hbl2
        go_wp2_with fail
        refine hK.out _ _ hS5 (fun hHeld2 => ?_)
        clear hK K hHeld
        (try simp only [Act.put, List.setIfInBounds_toArray, List.set_cons_zero, List.set_cons_succ])
        first | (refine wpAnyH_take (i := 2) (oi := ({ dst := some 20, op := Op.binOp BinOp.eql 3 (Operand.tmp 19) (Operand.const (Value.int IntKind.i64 0)) 3, type := 4, pos := "law.go:48", after := #[{ on := 1, ground := Ground.data }], guard := none } : Oper)) (v := ?v2) rfl (by kernel_rfl) (by kernel_rfl) (by kernel_rfl) (fun _ _ _ h => h) (Or.inl ⟨by rfl, ?hy2⟩) (by assumption) ?rest2; case hy2 => ((intro w' hSw); (try dsimp only at hSw); go_simp; (try with_reducible rfl))) | (refine wpAnyH_take (i := 2) (oi := ({ dst := some 20, op := Op.binOp BinOp.eql 3 (Operand.tmp 19) (Operand.const (Value.int IntKind.i64 0)) 3, type := 4, pos := "law.go:48", after := #[{ on := 1, ground := Ground.data }], guard := none } : Oper)) (v := undef) rfl (by kernel_rfl) (by kernel_rfl) (by kernel_rfl) (fun _ _ _ h => h) (Or.inr ⟨by rfl, rfl⟩) (by assumption) ?_)
        (try simp only [Act.put, List.setIfInBounds_toArray, List.set_cons_zero, List.set_cons_succ])
        first | (refine wpAnyH_take (i := 3) (oi := ({ dst := some 21, op := Op.move (Operand.tmp 20), type := 4, pos := "law.go:48", after := #[{ on := 2, ground := Ground.data }, { on := 1, ground := Ground.chain }], guard := none } : Oper)) (v := ?v3) rfl (by kernel_rfl) (by kernel_rfl) (by kernel_rfl) (fun _ _ _ h => h) (Or.inl ⟨by rfl, ?hy3⟩) (by assumption) ?rest3; case hy3 => ((intro w' hSw); (try dsimp only at hSw); go_simp; (try with_reducible rfl))) | (refine wpAnyH_take (i := 3) (oi := ({ dst := some 21, op := Op.move (Operand.tmp 20), type := 4, pos := "law.go:48", after := #[{ on := 2, ground := Ground.data }, { on := 1, ground := Ground.chain }], guard := none } : Oper)) (v := undef) rfl (by kernel_rfl) (by kernel_rfl) (by kernel_rfl) (fun _ _ _ h => h) (Or.inr ⟨by rfl, rfl⟩) (by assumption) ?_)
        (try simp only [Act.put, List.setIfInBounds_toArray, List.set_cons_zero, List.set_cons_succ])
        first | (refine wpAnyH_take (i := 4) (oi := ({ dst := some 22, op := Op.fieldAddr 46 (Operand.tmp 4) 0, type := 0, pos := "law.go:48", after := #[{ on := 3, ground := Ground.guard }], guard := some (3, false) } : Oper)) (v := ?v4) rfl (by kernel_rfl) (by kernel_rfl) (by kernel_rfl) (fun _ _ _ h => h) (Or.inl ⟨by rfl, ?hy4⟩) (by assumption) ?rest4; case hy4 => ((intro w' hSw); (try dsimp only at hSw); go_simp; (try with_reducible rfl))) | (refine wpAnyH_take (i := 4) (oi := ({ dst := some 22, op := Op.fieldAddr 46 (Operand.tmp 4) 0, type := 0, pos := "law.go:48", after := #[{ on := 3, ground := Ground.guard }], guard := some (3, false) } : Oper)) (v := undef) rfl (by kernel_rfl) (by kernel_rfl) (by kernel_rfl) (fun _ _ _ h => h) (Or.inr ⟨by rfl, rfl⟩) (by assumption) ?_)
        (try simp only [Act.put, List.setIfInBounds_toArray, List.set_cons_zero, List.set_cons_succ])
        first | (refine wpAnyH_take (i := 5) (oi := ({ dst := some 23, op := Op.load 4 (Operand.tmp 22), type := 4, pos := "law.go:48", after := #[{ on := 4, ground := Ground.data }, { on := 3, ground := Ground.guard }], guard := some (3, false) } : Oper)) (v := ?v5) rfl (by kernel_rfl) (by kernel_rfl) (by kernel_rfl) (fun _ _ _ h => h) (Or.inl ⟨by rfl, ?hy5⟩) (by assumption) ?rest5; case hy5 => ((intro w' hSw); (try dsimp only at hSw); go_simp; (try with_reducible rfl))) | (refine wpAnyH_take (i := 5) (oi := ({ dst := some 23, op := Op.load 4 (Operand.tmp 22), type := 4, pos := "law.go:48", after := #[{ on := 4, ground := Ground.data }, { on := 3, ground := Ground.guard }], guard := some (3, false) } : Oper)) (v := undef) rfl (by kernel_rfl) (by kernel_rfl) (by kernel_rfl) (fun _ _ _ h => h) (Or.inr ⟨by rfl, rfl⟩) (by assumption) ?_)
        (try simp only [Act.put, List.setIfInBounds_toArray, List.set_cons_zero, List.set_cons_succ])
        first | (refine wpAnyH_take (i := 6) (oi := ({ dst := some 24, op := Op.move (Operand.tmp 0), type := 26, pos := "law.go:48", after := #[{ on := 3, ground := Ground.guard }], guard := some (3, false) } : Oper)) (v := ?v6) rfl (by kernel_rfl) (by kernel_rfl) (by kernel_rfl) (fun _ _ _ h => h) (Or.inl ⟨by rfl, ?hy6⟩) (by assumption) ?rest6; case hy6 => ((intro w' hSw); (try dsimp only at hSw); go_simp; (try with_reducible rfl))) | (refine wpAnyH_take (i := 6) (oi := ({ dst := some 24, op := Op.move (Operand.tmp 0), type := 26, pos := "law.go:48", after := #[{ on := 3, ground := Ground.guard }], guard := some (3, false) } : Oper)) (v := undef) rfl (by kernel_rfl) (by kernel_rfl) (by kernel_rfl) (fun _ _ _ h => h) (Or.inr ⟨by rfl, rfl⟩) (by assumption) ?_)
        (try simp only [Act.put, List.setIfInBounds_toArray, List.set_cons_zero, List.set_cons_succ])
        first | (refine wpAnyH_take (i := 7) (oi := ({ dst := some 25, op := Op.move (Operand.tmp 3), type := 3, pos := "law.go:48", after := #[{ on := 3, ground := Ground.guard }], guard := some (3, false) } : Oper)) (v := ?v7) rfl (by kernel_rfl) (by kernel_rfl) (by kernel_rfl) (fun _ _ _ h => h) (Or.inl ⟨by rfl, ?hy7⟩) (by assumption) ?rest7; case hy7 => ((intro w' hSw); (try dsimp only at hSw); go_simp; (try with_reducible rfl))) | (refine wpAnyH_take (i := 7) (oi := ({ dst := some 25, op := Op.move (Operand.tmp 3), type := 3, pos := "law.go:48", after := #[{ on := 3, ground := Ground.guard }], guard := some (3, false) } : Oper)) (v := undef) rfl (by kernel_rfl) (by kernel_rfl) (by kernel_rfl) (fun _ _ _ h => h) (Or.inr ⟨by rfl, rfl⟩) (by assumption) ?_)
        (try simp only [Act.put, List.setIfInBounds_toArray, List.set_cons_zero, List.set_cons_succ])
        first | (refine wpAnyH_take (i := 8) (oi := ({ dst := some 26, op := Op.indexAddr 26 (Operand.tmp 24) (Operand.tmp 25), type := 0, pos := "law.go:48", after := #[{ on := 6, ground := Ground.data }, { on := 7, ground := Ground.data }, { on := 3, ground := Ground.guard }], guard := some (3, false) } : Oper)) (v := ?v8) rfl (by kernel_rfl) (by kernel_rfl) (by kernel_rfl) (fun _ _ _ h => h) (Or.inl ⟨by rfl, ?hy8⟩) (by assumption) ?rest8; case hy8 => ((intro w' hSw); (try dsimp only at hSw); go_simp; (try with_reducible rfl))) | (refine wpAnyH_take (i := 8) (oi := ({ dst := some 26, op := Op.indexAddr 26 (Operand.tmp 24) (Operand.tmp 25), type := 0, pos := "law.go:48", after := #[{ on := 6, ground := Ground.data }, { on := 7, ground := Ground.data }, { on := 3, ground := Ground.guard }], guard := some (3, false) } : Oper)) (v := undef) rfl (by kernel_rfl) (by kernel_rfl) (by kernel_rfl) (fun _ _ _ h => h) (Or.inr ⟨by rfl, rfl⟩) (by assumption) ?_)
        (try simp only [Act.put, List.setIfInBounds_toArray, List.set_cons_zero, List.set_cons_succ])
        first | (refine wpAnyH_take (i := 9) (oi := ({ dst := some 27, op := Op.fieldAddr 80 (Operand.tmp 26) 0, type := 0, pos := "law.go:48", after := #[{ on := 8, ground := Ground.data }, { on := 3, ground := Ground.guard }], guard := some (3, false) } : Oper)) (v := ?v9) rfl (by kernel_rfl) (by kernel_rfl) (by kernel_rfl) (fun _ _ _ h => h) (Or.inl ⟨by rfl, ?hy9⟩) (by assumption) ?rest9; case hy9 => ((intro w' hSw); (try dsimp only at hSw); go_simp; (try with_reducible rfl))) | (refine wpAnyH_take (i := 9) (oi := ({ dst := some 27, op := Op.fieldAddr 80 (Operand.tmp 26) 0, type := 0, pos := "law.go:48", after := #[{ on := 8, ground := Ground.data }, { on := 3, ground := Ground.guard }], guard := some (3, false) } : Oper)) (v := undef) rfl (by kernel_rfl) (by kernel_rfl) (by kernel_rfl) (fun _ _ _ h => h) (Or.inr ⟨by rfl, rfl⟩) (by assumption) ?_)
        (try simp only [Act.put, List.setIfInBounds_toArray, List.set_cons_zero, List.set_cons_succ])
        first | (refine wpAnyH_take (i := 10) (oi := ({ dst := some 28, op := Op.fieldAddr 46 (Operand.tmp 27) 0, type := 0, pos := "law.go:48", after := #[{ on := 9, ground := Ground.data }, { on := 3, ground := Ground.guard }], guard := some (3, false) } : Oper)) (v := ?v10) rfl (by kernel_rfl) (by kernel_rfl) (by kernel_rfl) (fun _ _ _ h => h) (Or.inl ⟨by rfl, ?hy10⟩) (by assumption) ?rest10; case hy10 => ((intro w' hSw); (try dsimp only at hSw); go_simp; (try with_reducible rfl))) | (refine wpAnyH_take (i := 10) (oi := ({ dst := some 28, op := Op.fieldAddr 46 (Operand.tmp 27) 0, type := 0, pos := "law.go:48", after := #[{ on := 9, ground := Ground.data }, { on := 3, ground := Ground.guard }], guard := some (3, false) } : Oper)) (v := undef) rfl (by kernel_rfl) (by kernel_rfl) (by kernel_rfl) (fun _ _ _ h => h) (Or.inr ⟨by rfl, rfl⟩) (by assumption) ?_)
        (try simp only [Act.put, List.setIfInBounds_toArray, List.set_cons_zero, List.set_cons_succ])
        first | (refine wpAnyH_take (i := 11) (oi := ({ dst := some 29, op := Op.load 4 (Operand.tmp 28), type := 4, pos := "law.go:48", after := #[{ on := 10, ground := Ground.data }, { on := 3, ground := Ground.guard }], guard := some (3, false) } : Oper)) (v := ?v11) rfl (by kernel_rfl) (by kernel_rfl) (by kernel_rfl) (fun _ _ _ h => h) (Or.inl ⟨by rfl, ?hy11⟩) (by assumption) ?rest11; case hy11 => ((intro w' hSw); (try dsimp only at hSw); go_simp; (try with_reducible rfl))) | (refine wpAnyH_take (i := 11) (oi := ({ dst := some 29, op := Op.load 4 (Operand.tmp 28), type := 4, pos := "law.go:48", after := #[{ on := 10, ground := Ground.data }, { on := 3, ground := Ground.guard }], guard := some (3, false) } : Oper)) (v := undef) rfl (by kernel_rfl) (by kernel_rfl) (by kernel_rfl) (fun _ _ _ h => h) (Or.inr ⟨by rfl, rfl⟩) (by assumption) ?_)
        (try simp only [Act.put, List.setIfInBounds_toArray, List.set_cons_zero, List.set_cons_succ])
        first | (refine wpAnyH_take (i := 12) (oi := ({ dst := some 30, op := Op.binOp BinOp.neq 4 (Operand.tmp 23) (Operand.tmp 29) 4, type := 4, pos := "law.go:48", after := #[{ on := 5, ground := Ground.data }, { on := 11, ground := Ground.data }, { on := 3, ground := Ground.guard }], guard := some (3, false) } : Oper)) (v := ?v12) rfl (by kernel_rfl) (by kernel_rfl) (by kernel_rfl) (fun _ _ _ h => h) (Or.inl ⟨by rfl, ?hy12⟩) (by assumption) ?rest12; case hy12 => ((intro w' hSw); (try dsimp only at hSw); go_simp; (try with_reducible rfl))) | (refine wpAnyH_take (i := 12) (oi := ({ dst := some 30, op := Op.binOp BinOp.neq 4 (Operand.tmp 23) (Operand.tmp 29) 4, type := 4, pos := "law.go:48", after := #[{ on := 5, ground := Ground.data }, { on := 11, ground := Ground.data }, { on := 3, ground := Ground.guard }], guard := some (3, false) } : Oper)) (v := undef) rfl (by kernel_rfl) (by kernel_rfl) (by kernel_rfl) (fun _ _ _ h => h) (Or.inr ⟨by rfl, rfl⟩) (by assumption) ?_)
        (try simp only [Act.put, List.setIfInBounds_toArray, List.set_cons_zero, List.set_cons_succ])
        first | (refine wpAnyH_take (i := 13) (oi := ({ dst := some 31, op := Op.pick (Operand.tmp 21) (Operand.const (Value.bool true)) (Operand.tmp 30), type := 4, pos := "law.go:48", after := #[{ on := 3, ground := Ground.data }, { on := 12, ground := Ground.data }], guard := none } : Oper)) (v := ?v13) rfl (by kernel_rfl) (by kernel_rfl) (by kernel_rfl) (fun _ _ _ h => h) (Or.inl ⟨by rfl, ?hy13⟩) (by assumption) ?rest13; case hy13 => ((intro w' hSw); (try dsimp only at hSw); go_simp; (try with_reducible rfl))) | (refine wpAnyH_take (i := 13) (oi := ({ dst := some 31, op := Op.pick (Operand.tmp 21) (Operand.const (Value.bool true)) (Operand.tmp 30), type := 4, pos := "law.go:48", after := #[{ on := 3, ground := Ground.data }, { on := 12, ground := Ground.data }], guard := none } : Oper)) (v := undef) rfl (by kernel_rfl) (by kernel_rfl) (by kernel_rfl) (fun _ _ _ h => h) (Or.inr ⟨by rfl, rfl⟩) (by assumption) ?_)
        (try simp only [Act.put, List.setIfInBounds_toArray, List.set_cons_zero, List.set_cons_succ])
        first | (refine wpAnyH_take (i := 14) (oi := ({ dst := some 32, op := Op.move (Operand.tmp 31), type := 4, pos := "law.go:48", after := #[{ on := 13, ground := Ground.data }, { on := 3, ground := Ground.chain }], guard := none } : Oper)) (v := ?v14) rfl (by kernel_rfl) (by kernel_rfl) (by kernel_rfl) (fun _ _ _ h => h) (Or.inl ⟨by rfl, ?hy14⟩) (by assumption) ?rest14; case hy14 => ((intro w' hSw); (try dsimp only at hSw); go_simp; (try with_reducible rfl))) | (refine wpAnyH_take (i := 14) (oi := ({ dst := some 32, op := Op.move (Operand.tmp 31), type := 4, pos := "law.go:48", after := #[{ on := 13, ground := Ground.data }, { on := 3, ground := Ground.chain }], guard := none } : Oper)) (v := undef) rfl (by kernel_rfl) (by kernel_rfl) (by kernel_rfl) (fun _ _ _ h => h) (Or.inr ⟨by rfl, rfl⟩) (by assumption) ?_)
        (try simp only [Act.put, List.setIfInBounds_toArray, List.set_cons_zero, List.set_cons_succ])
        first | (refine wpAnyH_take (i := 15) (oi := ({ dst := some 33, op := Op.fieldAddr 46 (Operand.tmp 4) 1, type := 0, pos := "law.go:48", after := #[{ on := 14, ground := Ground.guard }], guard := some (14, false) } : Oper)) (v := ?v15) rfl (by kernel_rfl) (by kernel_rfl) (by kernel_rfl) (fun _ _ _ h => h) (Or.inl ⟨by rfl, ?hy15⟩) (by assumption) ?rest15; case hy15 => ((intro w' hSw); (try dsimp only at hSw); go_simp; (try with_reducible rfl))) | (refine wpAnyH_take (i := 15) (oi := ({ dst := some 33, op := Op.fieldAddr 46 (Operand.tmp 4) 1, type := 0, pos := "law.go:48", after := #[{ on := 14, ground := Ground.guard }], guard := some (14, false) } : Oper)) (v := undef) rfl (by kernel_rfl) (by kernel_rfl) (by kernel_rfl) (fun _ _ _ h => h) (Or.inr ⟨by rfl, rfl⟩) (by assumption) ?_)
        (try simp only [Act.put, List.setIfInBounds_toArray, List.set_cons_zero, List.set_cons_succ])
        first | (refine wpAnyH_take (i := 16) (oi := ({ dst := some 34, op := Op.load 44 (Operand.tmp 33), type := 44, pos := "law.go:48", after := #[{ on := 15, ground := Ground.data }, { on := 14, ground := Ground.guard }], guard := some (14, false) } : Oper)) (v := ?v16) rfl (by kernel_rfl) (by kernel_rfl) (by kernel_rfl) (fun _ _ _ h => h) (Or.inl ⟨by rfl, ?hy16⟩) (by assumption) ?rest16; case hy16 => ((intro w' hSw); (try dsimp only at hSw); go_simp; (try with_reducible rfl))) | (refine wpAnyH_take (i := 16) (oi := ({ dst := some 34, op := Op.load 44 (Operand.tmp 33), type := 44, pos := "law.go:48", after := #[{ on := 15, ground := Ground.data }, { on := 14, ground := Ground.guard }], guard := some (14, false) } : Oper)) (v := undef) rfl (by kernel_rfl) (by kernel_rfl) (by kernel_rfl) (fun _ _ _ h => h) (Or.inr ⟨by rfl, rfl⟩) (by assumption) ?_)
        (try simp only [Act.put, List.setIfInBounds_toArray, List.set_cons_zero, List.set_cons_succ])
        first | (refine wpAnyH_take (i := 17) (oi := ({ dst := some 35, op := Op.call { callee := Callee.builtin Builtin.len, args := #[Operand.tmp 34], argTypes := #[44] }, type := 3, pos := "law.go:48", after := #[{ on := 16, ground := Ground.data }, { on := 14, ground := Ground.guard }], guard := some (14, false) } : Oper)) (v := ?v17) rfl (by kernel_rfl) (by kernel_rfl) (by kernel_rfl) (fun _ _ _ h => h) (Or.inl ⟨by rfl, ?hy17⟩) (by assumption) ?rest17; case hy17 => ((intro w' hSw); (try dsimp only at hSw); go_simp; (try with_reducible rfl))) | (refine wpAnyH_take (i := 17) (oi := ({ dst := some 35, op := Op.call { callee := Callee.builtin Builtin.len, args := #[Operand.tmp 34], argTypes := #[44] }, type := 3, pos := "law.go:48", after := #[{ on := 16, ground := Ground.data }, { on := 14, ground := Ground.guard }], guard := some (14, false) } : Oper)) (v := undef) rfl (by kernel_rfl) (by kernel_rfl) (by kernel_rfl) (fun _ _ _ h => h) (Or.inr ⟨by rfl, rfl⟩) (by assumption) ?_)
        (try simp only [Act.put, List.setIfInBounds_toArray, List.set_cons_zero, List.set_cons_succ])
        first | (refine wpAnyH_take (i := 18) (oi := ({ dst := some 36, op := Op.move (Operand.tmp 0), type := 26, pos := "law.go:48", after := #[{ on := 14, ground := Ground.guard }], guard := some (14, false) } : Oper)) (v := ?v18) rfl (by kernel_rfl) (by kernel_rfl) (by kernel_rfl) (fun _ _ _ h => h) (Or.inl ⟨by rfl, ?hy18⟩) (by assumption) ?rest18; case hy18 => ((intro w' hSw); (try dsimp only at hSw); go_simp; (try with_reducible rfl))) | (refine wpAnyH_take (i := 18) (oi := ({ dst := some 36, op := Op.move (Operand.tmp 0), type := 26, pos := "law.go:48", after := #[{ on := 14, ground := Ground.guard }], guard := some (14, false) } : Oper)) (v := undef) rfl (by kernel_rfl) (by kernel_rfl) (by kernel_rfl) (fun _ _ _ h => h) (Or.inr ⟨by rfl, rfl⟩) (by assumption) ?_)
        (try simp only [Act.put, List.setIfInBounds_toArray, List.set_cons_zero, List.set_cons_succ])
        first | (refine wpAnyH_take (i := 19) (oi := ({ dst := some 37, op := Op.move (Operand.tmp 3), type := 3, pos := "law.go:48", after := #[{ on := 14, ground := Ground.guard }], guard := some (14, false) } : Oper)) (v := ?v19) rfl (by kernel_rfl) (by kernel_rfl) (by kernel_rfl) (fun _ _ _ h => h) (Or.inl ⟨by rfl, ?hy19⟩) (by assumption) ?rest19; case hy19 => ((intro w' hSw); (try dsimp only at hSw); go_simp; (try with_reducible rfl))) | (refine wpAnyH_take (i := 19) (oi := ({ dst := some 37, op := Op.move (Operand.tmp 3), type := 3, pos := "law.go:48", after := #[{ on := 14, ground := Ground.guard }], guard := some (14, false) } : Oper)) (v := undef) rfl (by kernel_rfl) (by kernel_rfl) (by kernel_rfl) (fun _ _ _ h => h) (Or.inr ⟨by rfl, rfl⟩) (by assumption) ?_)
        (try simp only [Act.put, List.setIfInBounds_toArray, List.set_cons_zero, List.set_cons_succ])
        first | (refine wpAnyH_take (i := 20) (oi := ({ dst := some 38, op := Op.indexAddr 26 (Operand.tmp 36) (Operand.tmp 37), type := 0, pos := "law.go:48", after := #[{ on := 18, ground := Ground.data }, { on := 19, ground := Ground.data }, { on := 14, ground := Ground.guard }], guard := some (14, false) } : Oper)) (v := ?v20) rfl (by kernel_rfl) (by kernel_rfl) (by kernel_rfl) (fun _ _ _ h => h) (Or.inl ⟨by rfl, ?hy20⟩) (by assumption) ?rest20; case hy20 => ((intro w' hSw); (try dsimp only at hSw); go_simp; (try with_reducible rfl))) | (refine wpAnyH_take (i := 20) (oi := ({ dst := some 38, op := Op.indexAddr 26 (Operand.tmp 36) (Operand.tmp 37), type := 0, pos := "law.go:48", after := #[{ on := 18, ground := Ground.data }, { on := 19, ground := Ground.data }, { on := 14, ground := Ground.guard }], guard := some (14, false) } : Oper)) (v := undef) rfl (by kernel_rfl) (by kernel_rfl) (by kernel_rfl) (fun _ _ _ h => h) (Or.inr ⟨by rfl, rfl⟩) (by assumption) ?_)
        (try simp only [Act.put, List.setIfInBounds_toArray, List.set_cons_zero, List.set_cons_succ])
        first | (refine wpAnyH_take (i := 21) (oi := ({ dst := some 39, op := Op.fieldAddr 80 (Operand.tmp 38) 0, type := 0, pos := "law.go:48", after := #[{ on := 20, ground := Ground.data }, { on := 14, ground := Ground.guard }], guard := some (14, false) } : Oper)) (v := ?v21) rfl (by kernel_rfl) (by kernel_rfl) (by kernel_rfl) (fun _ _ _ h => h) (Or.inl ⟨by rfl, ?hy21⟩) (by assumption) ?rest21; case hy21 => ((intro w' hSw); (try dsimp only at hSw); go_simp; (try with_reducible rfl))) | (refine wpAnyH_take (i := 21) (oi := ({ dst := some 39, op := Op.fieldAddr 80 (Operand.tmp 38) 0, type := 0, pos := "law.go:48", after := #[{ on := 20, ground := Ground.data }, { on := 14, ground := Ground.guard }], guard := some (14, false) } : Oper)) (v := undef) rfl (by kernel_rfl) (by kernel_rfl) (by kernel_rfl) (fun _ _ _ h => h) (Or.inr ⟨by rfl, rfl⟩) (by assumption) ?_)
        (try simp only [Act.put, List.setIfInBounds_toArray, List.set_cons_zero, List.set_cons_succ])
        first | (refine wpAnyH_take (i := 22) (oi := ({ dst := some 40, op := Op.fieldAddr 46 (Operand.tmp 39) 1, type := 0, pos := "law.go:48", after := #[{ on := 21, ground := Ground.data }, { on := 14, ground := Ground.guard }], guard := some (14, false) } : Oper)) (v := ?v22) rfl (by kernel_rfl) (by kernel_rfl) (by kernel_rfl) (fun _ _ _ h => h) (Or.inl ⟨by rfl, ?hy22⟩) (by assumption) ?rest22; case hy22 => ((intro w' hSw); (try dsimp only at hSw); go_simp; (try with_reducible rfl))) | (refine wpAnyH_take (i := 22) (oi := ({ dst := some 40, op := Op.fieldAddr 46 (Operand.tmp 39) 1, type := 0, pos := "law.go:48", after := #[{ on := 21, ground := Ground.data }, { on := 14, ground := Ground.guard }], guard := some (14, false) } : Oper)) (v := undef) rfl (by kernel_rfl) (by kernel_rfl) (by kernel_rfl) (fun _ _ _ h => h) (Or.inr ⟨by rfl, rfl⟩) (by assumption) ?_)
        (try simp only [Act.put, List.setIfInBounds_toArray, List.set_cons_zero, List.set_cons_succ])
        first | (refine wpAnyH_take (i := 23) (oi := ({ dst := some 41, op := Op.load 44 (Operand.tmp 40), type := 44, pos := "law.go:48", after := #[{ on := 22, ground := Ground.data }, { on := 14, ground := Ground.guard }], guard := some (14, false) } : Oper)) (v := ?v23) rfl (by kernel_rfl) (by kernel_rfl) (by kernel_rfl) (fun _ _ _ h => h) (Or.inl ⟨by rfl, ?hy23⟩) (by assumption) ?rest23; case hy23 => ((intro w' hSw); (try dsimp only at hSw); go_simp; (try with_reducible rfl))) | (refine wpAnyH_take (i := 23) (oi := ({ dst := some 41, op := Op.load 44 (Operand.tmp 40), type := 44, pos := "law.go:48", after := #[{ on := 22, ground := Ground.data }, { on := 14, ground := Ground.guard }], guard := some (14, false) } : Oper)) (v := undef) rfl (by kernel_rfl) (by kernel_rfl) (by kernel_rfl) (fun _ _ _ h => h) (Or.inr ⟨by rfl, rfl⟩) (by assumption) ?_)
        (try simp only [Act.put, List.setIfInBounds_toArray, List.set_cons_zero, List.set_cons_succ])
        first | (refine wpAnyH_take (i := 24) (oi := ({ dst := some 42, op := Op.call { callee := Callee.builtin Builtin.len, args := #[Operand.tmp 41], argTypes := #[44] }, type := 3, pos := "law.go:48", after := #[{ on := 23, ground := Ground.data }, { on := 14, ground := Ground.guard }], guard := some (14, false) } : Oper)) (v := ?v24) rfl (by kernel_rfl) (by kernel_rfl) (by kernel_rfl) (fun _ _ _ h => h) (Or.inl ⟨by rfl, ?hy24⟩) (by assumption) ?rest24; case hy24 => ((intro w' hSw); (try dsimp only at hSw); go_simp; (try with_reducible rfl))) | (refine wpAnyH_take (i := 24) (oi := ({ dst := some 42, op := Op.call { callee := Callee.builtin Builtin.len, args := #[Operand.tmp 41], argTypes := #[44] }, type := 3, pos := "law.go:48", after := #[{ on := 23, ground := Ground.data }, { on := 14, ground := Ground.guard }], guard := some (14, false) } : Oper)) (v := undef) rfl (by kernel_rfl) (by kernel_rfl) (by kernel_rfl) (fun _ _ _ h => h) (Or.inr ⟨by rfl, rfl⟩) (by assumption) ?_)
        (try simp only [Act.put, List.setIfInBounds_toArray, List.set_cons_zero, List.set_cons_succ])
        first | (refine wpAnyH_take (i := 25) (oi := ({ dst := some 43, op := Op.binOp BinOp.neq 3 (Operand.tmp 35) (Operand.tmp 42) 3, type := 4, pos := "law.go:48", after := #[{ on := 17, ground := Ground.data }, { on := 24, ground := Ground.data }, { on := 14, ground := Ground.guard }], guard := some (14, false) } : Oper)) (v := ?v25) rfl (by kernel_rfl) (by kernel_rfl) (by kernel_rfl) (fun _ _ _ h => h) (Or.inl ⟨by rfl, ?hy25⟩) (by assumption) ?rest25; case hy25 => ((intro w' hSw); (try dsimp only at hSw); go_simp; (try with_reducible rfl))) | (refine wpAnyH_take (i := 25) (oi := ({ dst := some 43, op := Op.binOp BinOp.neq 3 (Operand.tmp 35) (Operand.tmp 42) 3, type := 4, pos := "law.go:48", after := #[{ on := 17, ground := Ground.data }, { on := 24, ground := Ground.data }, { on := 14, ground := Ground.guard }], guard := some (14, false) } : Oper)) (v := undef) rfl (by kernel_rfl) (by kernel_rfl) (by kernel_rfl) (fun _ _ _ h => h) (Or.inr ⟨by rfl, rfl⟩) (by assumption) ?_)
        (try simp only [Act.put, List.setIfInBounds_toArray, List.set_cons_zero, List.set_cons_succ])
        first | (refine wpAnyH_take (i := 26) (oi := ({ dst := some 44, op := Op.pick (Operand.tmp 32) (Operand.const (Value.bool true)) (Operand.tmp 43), type := 4, pos := "law.go:48", after := #[{ on := 14, ground := Ground.data }, { on := 25, ground := Ground.data }], guard := none } : Oper)) (v := ?v26) rfl (by kernel_rfl) (by kernel_rfl) (by kernel_rfl) (fun _ _ _ h => h) (Or.inl ⟨by rfl, ?hy26⟩) (by assumption) ?rest26; case hy26 => ((intro w' hSw); (try dsimp only at hSw); go_simp; (try with_reducible rfl))) | (refine wpAnyH_take (i := 26) (oi := ({ dst := some 44, op := Op.pick (Operand.tmp 32) (Operand.const (Value.bool true)) (Operand.tmp 43), type := 4, pos := "law.go:48", after := #[{ on := 14, ground := Ground.data }, { on := 25, ground := Ground.data }], guard := none } : Oper)) (v := undef) rfl (by kernel_rfl) (by kernel_rfl) (by kernel_rfl) (fun _ _ _ h => h) (Or.inr ⟨by rfl, rfl⟩) (by assumption) ?_)
        (try simp only [Act.put, List.setIfInBounds_toArray, List.set_cons_zero, List.set_cons_succ])
        first | (refine wpAnyH_take (i := 27) (oi := ({ dst := some 45, op := Op.move (Operand.tmp 44), type := 4, pos := "law.go:48", after := #[{ on := 26, ground := Ground.data }, { on := 14, ground := Ground.chain }], guard := none } : Oper)) (v := ?v27) rfl (by kernel_rfl) (by kernel_rfl) (by kernel_rfl) (fun _ _ _ h => h) (Or.inl ⟨by rfl, ?hy27⟩) (by assumption) ?rest27; case hy27 => ((intro w' hSw); (try dsimp only at hSw); go_simp; (try with_reducible rfl))) | (refine wpAnyH_take (i := 27) (oi := ({ dst := some 45, op := Op.move (Operand.tmp 44), type := 4, pos := "law.go:48", after := #[{ on := 26, ground := Ground.data }, { on := 14, ground := Ground.chain }], guard := none } : Oper)) (v := undef) rfl (by kernel_rfl) (by kernel_rfl) (by kernel_rfl) (fun _ _ _ h => h) (Or.inr ⟨by rfl, rfl⟩) (by assumption) ?_)
        (try simp only [Act.put, List.setIfInBounds_toArray, List.set_cons_zero, List.set_cons_succ])
        first | (refine wpAnyH_take (i := 28) (oi := ({ dst := some 46, op := Op.move (Operand.tmp 3), type := 3, pos := "law.go:48", after := #[{ on := 27, ground := Ground.guard }], guard := some (27, false) } : Oper)) (v := ?v28) rfl (by kernel_rfl) (by kernel_rfl) (by kernel_rfl) (fun _ _ _ h => h) (Or.inl ⟨by rfl, ?hy28⟩) (by assumption) ?rest28; case hy28 => ((intro w' hSw); (try dsimp only at hSw); go_simp; (try with_reducible rfl))) | (refine wpAnyH_take (i := 28) (oi := ({ dst := some 46, op := Op.move (Operand.tmp 3), type := 3, pos := "law.go:48", after := #[{ on := 27, ground := Ground.guard }], guard := some (27, false) } : Oper)) (v := undef) rfl (by kernel_rfl) (by kernel_rfl) (by kernel_rfl) (fun _ _ _ h => h) (Or.inr ⟨by rfl, rfl⟩) (by assumption) ?_)
        (try simp only [Act.put, List.setIfInBounds_toArray, List.set_cons_zero, List.set_cons_succ])
        first | (refine wpAnyH_take (i := 29) (oi := ({ dst := some 47, op := Op.binOp BinOp.gtr 3 (Operand.tmp 46) (Operand.const (Value.int IntKind.i64 0)) 3, type := 4, pos := "law.go:48", after := #[{ on := 28, ground := Ground.data }, { on := 27, ground := Ground.guard }], guard := some (27, false) } : Oper)) (v := ?v29) rfl (by kernel_rfl) (by kernel_rfl) (by kernel_rfl) (fun _ _ _ h => h) (Or.inl ⟨by rfl, ?hy29⟩) (by assumption) ?rest29; case hy29 => ((intro w' hSw); (try dsimp only at hSw); go_simp; (try with_reducible rfl))) | (refine wpAnyH_take (i := 29) (oi := ({ dst := some 47, op := Op.binOp BinOp.gtr 3 (Operand.tmp 46) (Operand.const (Value.int IntKind.i64 0)) 3, type := 4, pos := "law.go:48", after := #[{ on := 28, ground := Ground.data }, { on := 27, ground := Ground.guard }], guard := some (27, false) } : Oper)) (v := undef) rfl (by kernel_rfl) (by kernel_rfl) (by kernel_rfl) (fun _ _ _ h => h) (Or.inr ⟨by rfl, rfl⟩) (by assumption) ?_)
        (try simp only [Act.put, List.setIfInBounds_toArray, List.set_cons_zero, List.set_cons_succ])
        first | (refine wpAnyH_take (i := 30) (oi := ({ dst := some 48, op := Op.move (Operand.tmp 47), type := 4, pos := "law.go:48", after := #[{ on := 29, ground := Ground.data }, { on := 27, ground := Ground.chain }, { on := 27, ground := Ground.guard }], guard := some (27, false) } : Oper)) (v := ?v30) rfl (by kernel_rfl) (by kernel_rfl) (by kernel_rfl) (fun _ _ _ h => h) (Or.inl ⟨by rfl, ?hy30⟩) (by assumption) ?rest30; case hy30 => ((intro w' hSw); (try dsimp only at hSw); go_simp; (try with_reducible rfl))) | (refine wpAnyH_take (i := 30) (oi := ({ dst := some 48, op := Op.move (Operand.tmp 47), type := 4, pos := "law.go:48", after := #[{ on := 29, ground := Ground.data }, { on := 27, ground := Ground.chain }, { on := 27, ground := Ground.guard }], guard := some (27, false) } : Oper)) (v := undef) rfl (by kernel_rfl) (by kernel_rfl) (by kernel_rfl) (fun _ _ _ h => h) (Or.inr ⟨by rfl, rfl⟩) (by assumption) ?_)
        (try simp only [Act.put, List.setIfInBounds_toArray, List.set_cons_zero, List.set_cons_succ])
        first | (refine wpAnyH_take (i := 31) (oi := ({ dst := some 49, op := Op.move (Operand.tmp 0), type := 26, pos := "law.go:48", after := #[{ on := 30, ground := Ground.guard }], guard := some (30, true) } : Oper)) (v := undef) rfl (by kernel_rfl) (by kernel_rfl) (by kernel_rfl) (fun _ _ _ h => h) (Or.inr ⟨by rfl, rfl⟩) (by assumption) ?_) | (refine wpAnyH_take (i := 31) (oi := ({ dst := some 49, op := Op.move (Operand.tmp 0), type := 26, pos := "law.go:48", after := #[{ on := 30, ground := Ground.guard }], guard := some (30, true) } : Oper)) (v := ?v31) rfl (by kernel_rfl) (by kernel_rfl) (by kernel_rfl) (fun _ _ _ h => h) (Or.inl ⟨by rfl, ?hy31⟩) (by assumption) ?rest31; case hy31 => ((intro w' hSw); (try dsimp only at hSw); go_simp; (try with_reducible rfl)))
        (try simp only [Act.put, List.setIfInBounds_toArray, List.set_cons_zero, List.set_cons_succ])
        first | (refine wpAnyH_take (i := 32) (oi := ({ dst := some 50, op := Op.move (Operand.tmp 3), type := 3, pos := "law.go:48", after := #[{ on := 30, ground := Ground.guard }], guard := some (30, true) } : Oper)) (v := undef) rfl (by kernel_rfl) (by kernel_rfl) (by kernel_rfl) (fun _ _ _ h => h) (Or.inr ⟨by rfl, rfl⟩) (by assumption) ?_) | (refine wpAnyH_take (i := 32) (oi := ({ dst := some 50, op := Op.move (Operand.tmp 3), type := 3, pos := "law.go:48", after := #[{ on := 30, ground := Ground.guard }], guard := some (30, true) } : Oper)) (v := ?v32) rfl (by kernel_rfl) (by kernel_rfl) (by kernel_rfl) (fun _ _ _ h => h) (Or.inl ⟨by rfl, ?hy32⟩) (by assumption) ?rest32; case hy32 => ((intro w' hSw); (try dsimp only at hSw); go_simp; (try with_reducible rfl)))
        (try simp only [Act.put, List.setIfInBounds_toArray, List.set_cons_zero, List.set_cons_succ])
        first | (refine wpAnyH_take (i := 33) (oi := ({ dst := some 51, op := Op.binOp BinOp.sub 3 (Operand.tmp 50) (Operand.const (Value.int IntKind.i64 1)) 3, type := 3, pos := "law.go:48", after := #[{ on := 32, ground := Ground.data }, { on := 30, ground := Ground.guard }], guard := some (30, true) } : Oper)) (v := undef) rfl (by kernel_rfl) (by kernel_rfl) (by kernel_rfl) (fun _ _ _ h => h) (Or.inr ⟨by rfl, rfl⟩) (by assumption) ?_) | (refine wpAnyH_take (i := 33) (oi := ({ dst := some 51, op := Op.binOp BinOp.sub 3 (Operand.tmp 50) (Operand.const (Value.int IntKind.i64 1)) 3, type := 3, pos := "law.go:48", after := #[{ on := 32, ground := Ground.data }, { on := 30, ground := Ground.guard }], guard := some (30, true) } : Oper)) (v := ?v33) rfl (by kernel_rfl) (by kernel_rfl) (by kernel_rfl) (fun _ _ _ h => h) (Or.inl ⟨by rfl, ?hy33⟩) (by assumption) ?rest33; case hy33 => ((intro w' hSw); (try dsimp only at hSw); go_simp; (try with_reducible rfl)))
        (try simp only [Act.put, List.setIfInBounds_toArray, List.set_cons_zero, List.set_cons_succ])
        first | (refine wpAnyH_take (i := 34) (oi := ({ dst := some 52, op := Op.indexAddr 26 (Operand.tmp 49) (Operand.tmp 51), type := 0, pos := "law.go:48", after := #[{ on := 31, ground := Ground.data }, { on := 33, ground := Ground.data }, { on := 30, ground := Ground.guard }], guard := some (30, true) } : Oper)) (v := undef) rfl (by kernel_rfl) (by kernel_rfl) (by kernel_rfl) (fun _ _ _ h => h) (Or.inr ⟨by rfl, rfl⟩) (by assumption) ?_) | (refine wpAnyH_take (i := 34) (oi := ({ dst := some 52, op := Op.indexAddr 26 (Operand.tmp 49) (Operand.tmp 51), type := 0, pos := "law.go:48", after := #[{ on := 31, ground := Ground.data }, { on := 33, ground := Ground.data }, { on := 30, ground := Ground.guard }], guard := some (30, true) } : Oper)) (v := ?v34) rfl (by kernel_rfl) (by kernel_rfl) (by kernel_rfl) (fun _ _ _ h => h) (Or.inl ⟨by rfl, ?hy34⟩) (by assumption) ?rest34; case hy34 => ((intro w' hSw); (try dsimp only at hSw); go_simp; (try with_reducible rfl)))
        (try simp only [Act.put, List.setIfInBounds_toArray, List.set_cons_zero, List.set_cons_succ])
        first | (refine wpAnyH_take (i := 35) (oi := ({ dst := some 53, op := Op.fieldAddr 80 (Operand.tmp 52) 1, type := 0, pos := "law.go:48", after := #[{ on := 34, ground := Ground.data }, { on := 30, ground := Ground.guard }], guard := some (30, true) } : Oper)) (v := undef) rfl (by kernel_rfl) (by kernel_rfl) (by kernel_rfl) (fun _ _ _ h => h) (Or.inr ⟨by rfl, rfl⟩) (by assumption) ?_) | (refine wpAnyH_take (i := 35) (oi := ({ dst := some 53, op := Op.fieldAddr 80 (Operand.tmp 52) 1, type := 0, pos := "law.go:48", after := #[{ on := 34, ground := Ground.data }, { on := 30, ground := Ground.guard }], guard := some (30, true) } : Oper)) (v := ?v35) rfl (by kernel_rfl) (by kernel_rfl) (by kernel_rfl) (fun _ _ _ h => h) (Or.inl ⟨by rfl, ?hy35⟩) (by assumption) ?rest35; case hy35 => ((intro w' hSw); (try dsimp only at hSw); go_simp; (try with_reducible rfl)))
        (try simp only [Act.put, List.setIfInBounds_toArray, List.set_cons_zero, List.set_cons_succ])
        first | (refine wpAnyH_take (i := 36) (oi := ({ dst := some 54, op := Op.load 34 (Operand.tmp 53), type := 34, pos := "law.go:48", after := #[{ on := 35, ground := Ground.data }, { on := 30, ground := Ground.guard }], guard := some (30, true) } : Oper)) (v := undef) rfl (by kernel_rfl) (by kernel_rfl) (by kernel_rfl) (fun _ _ _ h => h) (Or.inr ⟨by rfl, rfl⟩) (by assumption) ?_) | (refine wpAnyH_take (i := 36) (oi := ({ dst := some 54, op := Op.load 34 (Operand.tmp 53), type := 34, pos := "law.go:48", after := #[{ on := 35, ground := Ground.data }, { on := 30, ground := Ground.guard }], guard := some (30, true) } : Oper)) (v := ?v36) rfl (by kernel_rfl) (by kernel_rfl) (by kernel_rfl) (fun _ _ _ h => h) (Or.inl ⟨by rfl, ?hy36⟩) (by assumption) ?rest36; case hy36 => ((intro w' hSw); (try dsimp only at hSw); go_simp; (try with_reducible rfl)))
        (try simp only [Act.put, List.setIfInBounds_toArray, List.set_cons_zero, List.set_cons_succ])
        first | (refine wpAnyH_take (i := 37) (oi := ({ dst := some 55, op := Op.move (Operand.tmp 0), type := 26, pos := "law.go:48", after := #[{ on := 30, ground := Ground.guard }], guard := some (30, true) } : Oper)) (v := undef) rfl (by kernel_rfl) (by kernel_rfl) (by kernel_rfl) (fun _ _ _ h => h) (Or.inr ⟨by rfl, rfl⟩) (by assumption) ?_) | (refine wpAnyH_take (i := 37) (oi := ({ dst := some 55, op := Op.move (Operand.tmp 0), type := 26, pos := "law.go:48", after := #[{ on := 30, ground := Ground.guard }], guard := some (30, true) } : Oper)) (v := ?v37) rfl (by kernel_rfl) (by kernel_rfl) (by kernel_rfl) (fun _ _ _ h => h) (Or.inl ⟨by rfl, ?hy37⟩) (by assumption) ?rest37; case hy37 => ((intro w' hSw); (try dsimp only at hSw); go_simp; (try with_reducible rfl)))
        (try simp only [Act.put, List.setIfInBounds_toArray, List.set_cons_zero, List.set_cons_succ])
        first | (refine wpAnyH_take (i := 38) (oi := ({ dst := some 56, op := Op.move (Operand.tmp 3), type := 3, pos := "law.go:48", after := #[{ on := 30, ground := Ground.guard }], guard := some (30, true) } : Oper)) (v := undef) rfl (by kernel_rfl) (by kernel_rfl) (by kernel_rfl) (fun _ _ _ h => h) (Or.inr ⟨by rfl, rfl⟩) (by assumption) ?_) | (refine wpAnyH_take (i := 38) (oi := ({ dst := some 56, op := Op.move (Operand.tmp 3), type := 3, pos := "law.go:48", after := #[{ on := 30, ground := Ground.guard }], guard := some (30, true) } : Oper)) (v := ?v38) rfl (by kernel_rfl) (by kernel_rfl) (by kernel_rfl) (fun _ _ _ h => h) (Or.inl ⟨by rfl, ?hy38⟩) (by assumption) ?rest38; case hy38 => ((intro w' hSw); (try dsimp only at hSw); go_simp; (try with_reducible rfl)))
        (try simp only [Act.put, List.setIfInBounds_toArray, List.set_cons_zero, List.set_cons_succ])
        first | (refine wpAnyH_take (i := 39) (oi := ({ dst := some 57, op := Op.indexAddr 26 (Operand.tmp 55) (Operand.tmp 56), type := 0, pos := "law.go:48", after := #[{ on := 37, ground := Ground.data }, { on := 38, ground := Ground.data }, { on := 30, ground := Ground.guard }], guard := some (30, true) } : Oper)) (v := undef) rfl (by kernel_rfl) (by kernel_rfl) (by kernel_rfl) (fun _ _ _ h => h) (Or.inr ⟨by rfl, rfl⟩) (by assumption) ?_) | (refine wpAnyH_take (i := 39) (oi := ({ dst := some 57, op := Op.indexAddr 26 (Operand.tmp 55) (Operand.tmp 56), type := 0, pos := "law.go:48", after := #[{ on := 37, ground := Ground.data }, { on := 38, ground := Ground.data }, { on := 30, ground := Ground.guard }], guard := some (30, true) } : Oper)) (v := ?v39) rfl (by kernel_rfl) (by kernel_rfl) (by kernel_rfl) (fun _ _ _ h => h) (Or.inl ⟨by rfl, ?hy39⟩) (by assumption) ?rest39; case hy39 => ((intro w' hSw); (try dsimp only at hSw); go_simp; (try with_reducible rfl)))
        (try simp only [Act.put, List.setIfInBounds_toArray, List.set_cons_zero, List.set_cons_succ])
        first | (refine wpAnyH_take (i := 40) (oi := ({ dst := some 58, op := Op.fieldAddr 80 (Operand.tmp 57) 1, type := 0, pos := "law.go:48", after := #[{ on := 39, ground := Ground.data }, { on := 30, ground := Ground.guard }], guard := some (30, true) } : Oper)) (v := undef) rfl (by kernel_rfl) (by kernel_rfl) (by kernel_rfl) (fun _ _ _ h => h) (Or.inr ⟨by rfl, rfl⟩) (by assumption) ?_) | (refine wpAnyH_take (i := 40) (oi := ({ dst := some 58, op := Op.fieldAddr 80 (Operand.tmp 57) 1, type := 0, pos := "law.go:48", after := #[{ on := 39, ground := Ground.data }, { on := 30, ground := Ground.guard }], guard := some (30, true) } : Oper)) (v := ?v40) rfl (by kernel_rfl) (by kernel_rfl) (by kernel_rfl) (fun _ _ _ h => h) (Or.inl ⟨by rfl, ?hy40⟩) (by assumption) ?rest40; case hy40 => ((intro w' hSw); (try dsimp only at hSw); go_simp; (try with_reducible rfl)))
        (try simp only [Act.put, List.setIfInBounds_toArray, List.set_cons_zero, List.set_cons_succ])
        first | (refine wpAnyH_take (i := 41) (oi := ({ dst := some 59, op := Op.load 34 (Operand.tmp 58), type := 34, pos := "law.go:48", after := #[{ on := 40, ground := Ground.data }, { on := 30, ground := Ground.guard }], guard := some (30, true) } : Oper)) (v := undef) rfl (by kernel_rfl) (by kernel_rfl) (by kernel_rfl) (fun _ _ _ h => h) (Or.inr ⟨by rfl, rfl⟩) (by assumption) ?_) | (refine wpAnyH_take (i := 41) (oi := ({ dst := some 59, op := Op.load 34 (Operand.tmp 58), type := 34, pos := "law.go:48", after := #[{ on := 40, ground := Ground.data }, { on := 30, ground := Ground.guard }], guard := some (30, true) } : Oper)) (v := ?v41) rfl (by kernel_rfl) (by kernel_rfl) (by kernel_rfl) (fun _ _ _ h => h) (Or.inl ⟨by rfl, ?hy41⟩) (by assumption) ?rest41; case hy41 => ((intro w' hSw); (try dsimp only at hSw); go_simp; (try with_reducible rfl)))
        (try simp only [Act.put, List.setIfInBounds_toArray, List.set_cons_zero, List.set_cons_succ])
        first | (refine wpAnyH_take (i := 42) (oi := ({ dst := some 60, op := Op.call { callee := Callee.value (Operand.func 53), args := #[Operand.tmp 54, Operand.tmp 59], argTypes := #[34, 34] }, type := 4, pos := "law.go:48", after := #[{ on := 36, ground := Ground.data }, { on := 41, ground := Ground.data }, { on := 30, ground := Ground.chain }, { on := 30, ground := Ground.guard }], guard := some (30, true) } : Oper)) (v := undef) rfl (by kernel_rfl) (by kernel_rfl) (by kernel_rfl) (fun _ _ _ h => h) (Or.inr ⟨by rfl, rfl⟩) (by assumption) ?_) | (refine wpAnyH_take (i := 42) (oi := ({ dst := some 60, op := Op.call { callee := Callee.value (Operand.func 53), args := #[Operand.tmp 54, Operand.tmp 59], argTypes := #[34, 34] }, type := 4, pos := "law.go:48", after := #[{ on := 36, ground := Ground.data }, { on := 41, ground := Ground.data }, { on := 30, ground := Ground.chain }, { on := 30, ground := Ground.guard }], guard := some (30, true) } : Oper)) (v := ?v42) rfl (by kernel_rfl) (by kernel_rfl) (by kernel_rfl) (fun _ _ _ h => h) (Or.inl ⟨by rfl, ?hy42⟩) (by assumption) ?rest42; case hy42 => ((intro w' hSw); (try dsimp only at hSw); go_simp; (try with_reducible rfl)))
        (try simp only [Act.put, List.setIfInBounds_toArray, List.set_cons_zero, List.set_cons_succ])
        first | (refine wpAnyH_take (i := 43) (oi := ({ dst := some 61, op := Op.unOp UnOp.not 4 (Operand.tmp 60), type := 4, pos := "law.go:48", after := #[{ on := 42, ground := Ground.data }, { on := 30, ground := Ground.guard }], guard := some (30, true) } : Oper)) (v := undef) rfl (by kernel_rfl) (by kernel_rfl) (by kernel_rfl) (fun _ _ _ h => h) (Or.inr ⟨by rfl, rfl⟩) (by assumption) ?_) | (refine wpAnyH_take (i := 43) (oi := ({ dst := some 61, op := Op.unOp UnOp.not 4 (Operand.tmp 60), type := 4, pos := "law.go:48", after := #[{ on := 42, ground := Ground.data }, { on := 30, ground := Ground.guard }], guard := some (30, true) } : Oper)) (v := ?v43) rfl (by kernel_rfl) (by kernel_rfl) (by kernel_rfl) (fun _ _ _ h => h) (Or.inl ⟨by rfl, ?hy43⟩) (by assumption) ?rest43; case hy43 => ((intro w' hSw); (try dsimp only at hSw); go_simp; (try with_reducible rfl)))
        (try simp only [Act.put, List.setIfInBounds_toArray, List.set_cons_zero, List.set_cons_succ])
        first | (refine wpAnyH_take (i := 44) (oi := ({ dst := some 62, op := Op.pick (Operand.tmp 48) (Operand.tmp 61) (Operand.const (Value.bool false)), type := 4, pos := "law.go:48", after := #[{ on := 30, ground := Ground.data }, { on := 43, ground := Ground.data }, { on := 27, ground := Ground.guard }], guard := some (27, false) } : Oper)) (v := ?v44) rfl (by kernel_rfl) (by kernel_rfl) (by kernel_rfl) (fun _ _ _ h => h) (Or.inl ⟨by rfl, ?hy44⟩) (by assumption) ?rest44; case hy44 => ((intro w' hSw); (try dsimp only at hSw); go_simp; (try with_reducible rfl))) | (refine wpAnyH_take (i := 44) (oi := ({ dst := some 62, op := Op.pick (Operand.tmp 48) (Operand.tmp 61) (Operand.const (Value.bool false)), type := 4, pos := "law.go:48", after := #[{ on := 30, ground := Ground.data }, { on := 43, ground := Ground.data }, { on := 27, ground := Ground.guard }], guard := some (27, false) } : Oper)) (v := undef) rfl (by kernel_rfl) (by kernel_rfl) (by kernel_rfl) (fun _ _ _ h => h) (Or.inr ⟨by rfl, rfl⟩) (by assumption) ?_)
        (try simp only [Act.put, List.setIfInBounds_toArray, List.set_cons_zero, List.set_cons_succ])
        first | (refine wpAnyH_take (i := 45) (oi := ({ dst := some 63, op := Op.pick (Operand.tmp 45) (Operand.const (Value.bool true)) (Operand.tmp 62), type := 4, pos := "law.go:48", after := #[{ on := 27, ground := Ground.data }, { on := 44, ground := Ground.data }], guard := none } : Oper)) (v := ?v45) rfl (by kernel_rfl) (by kernel_rfl) (by kernel_rfl) (fun _ _ _ h => h) (Or.inl ⟨by rfl, ?hy45⟩) (by assumption) ?rest45; case hy45 => ((intro w' hSw); (try dsimp only at hSw); go_simp; (try with_reducible rfl))) | (refine wpAnyH_take (i := 45) (oi := ({ dst := some 63, op := Op.pick (Operand.tmp 45) (Operand.const (Value.bool true)) (Operand.tmp 62), type := 4, pos := "law.go:48", after := #[{ on := 27, ground := Ground.data }, { on := 44, ground := Ground.data }], guard := none } : Oper)) (v := undef) rfl (by kernel_rfl) (by kernel_rfl) (by kernel_rfl) (fun _ _ _ h => h) (Or.inr ⟨by rfl, rfl⟩) (by assumption) ?_)
        (try simp only [Act.put, List.setIfInBounds_toArray, List.set_cons_zero, List.set_cons_succ])
        refine wpAnyH_done (by kernel_rfl) ?_ _
        have hbz := hb3.trans (((Below.refl W2.heap.size W2).drew.trans hb5).mono hb3.size)
        obtain ⟨Wz, hWz⟩ : ∃ y, y = w5 := ⟨_, rfl⟩
        rw [← hWz] at hbz ⊢
        clear hWz hHeld2 hS5 hb5 hS0 hS1 hdd hsg HSG hnn hbb hg0 hg1 hb3 hb2
        go_wp2_with fail
        go_loop [5] (fun i => ∃ j : Nat, j ≤ 4 ∧ i = .int .i64 j) (fun i => 4 - (intOf i).toNat)
        case atStart => exact ⟨0, by omega, rfl⟩
        case round =>
          obtain ⟨j, hj, rfl⟩ := hrel
          by_cases hj4 : j < 4
          · have j0 : (0 : Int) ≤ (j : Int) := by omega
            have j1 : (j : Int) < 4 := by omega
            have hx := HCX.out Wz hbz j hj4
            have hx0 : 0 ≤ ex p.2 j := HV.out j hj4
            generalize ex p.2 j = x at hx hx0
            go_wp2
            go_round
            case rel => exact ⟨j + 1, by omega, by go_num⟩
            case measure => simp [intOf]; omega
          · obtain rfl : j = 4 := by omega
            go_wp2
            go_roundw
            case rel => exact ⟨k + 1, by omega, by go_num, hbz⟩
            case measure => simp [intOf]; omega
      · obtain ⟨q, hq⟩ : ∃ q, q + 1 = k := ⟨k - 1, by omega⟩
        obtain ⟨t', p', hp', hte', _, _, hh4'⟩ := HHT.out q (by omega)
        have hr4 := held4_below (held4_below hh4' hb hs1) hb2 hbl
        have hr4' := held4_below hq0.out hb2 hbl
        have e1 : (k : Int) - 1 = (q : Int) := by omega
        have e2 : IntKind.i64.wrap (q : Int) = (q : Int) := IntWalk.i64_in _ (by omega)
        have e3 : (0 : Int) ≤ (q : Int) := by omega
        have e4 : (q : Int) < (n : Int) := by omega
        have hg0 : decide ((0 : Int) < (k : Int)) = true := by rw [decide_eq_true_eq]; omega
        have hg1 : decide (0 < k) = true := by rw [decide_eq_true_eq]; omega
        have HGR := Lib.hid (show decide (0 < cmpE t'.e t.e) = true by
          rw [decide_eq_true_eq, hte', HTE.out]
          exact sorted_at HC.out.1 hp' HP.out (by omega))
        have hSS : HeldQ W2.drew g b (off + k * 6) (decide (p.1 < 0)) A1 t.n ca t.A t.n t.c ∧ (Held4 W2.drew b (off + q * 6) t'.e ∧ Held4 W2.drew b (off + k * 6) t.e) := ⟨hS1, hr4, hr4'⟩
        clear hq hp' hte' hh4' hr4 hr4' hS0
        go_region_held3 (fun w' => HeldQ w' g b (off + k * 6) (decide (p.1 < 0)) A1 t.n ca t.A t.n t.c ∧ (Held4 w' b (off + q * 6) t'.e ∧ Held4 w' b (off + k * 6) t.e)) (first | exact hSS | exact hS5 | exact hS6 | go_keep)
          (first
            | (go_at_call 51; ((with_reducible refine (isign_any B _ _ _ _ _ _ hdd).mono ?_); rw [HSG.out]; rintro e w5 ⟨rfl, hb5⟩; have hS5 := And.intro (heldQ_below hSS.1 hb5 hgl hbl2) (And.intro (held4_below (w := W2.drew) hSS.2.1 hb5 hbl2) (held4_below (w := W2.drew) hSS.2.2 hb5 hbl2)); have hgl5 : g < w5.heap.size := Nat.lt_of_lt_of_le hgl hb5.size; have hbl5 : b < w5.heap.size := Nat.lt_of_lt_of_le hbl2 hb5.size))
            | (go_at_call 53; ((with_reducible refine (greater_any t'.e t.e _).mono ?_); rw [HGR.out]; rintro e w6 ⟨rfl, hb6⟩; have hS6 := And.intro (heldQ_below hS5.1 hb6 hgl5 hbl5) (And.intro (held4_below hS5.2.1 hb6 hbl5) (held4_below hS5.2.2 hb6 hbl5)))))
        replace hb5 := hb5.trans (hb6.mono hb5.size)
        have hbz := hb3.trans (((Below.refl W2.heap.size W2).drew.trans hb5).mono hb3.size)
        obtain ⟨Wz, hWz⟩ : ∃ y, y = w6 := ⟨_, rfl⟩
        rw [← hWz] at hbz ⊢
        clear hWz hb5 hb6 hSS hS5 hS6 hS1 hdd hsg HSG hnn hbb hg0 hg1 hb3 hb2 e1 e2 HHT
        go_wp2_with fail
        go_loop [5] (fun i => ∃ j : Nat, j ≤ 4 ∧ i = .int .i64 j) (fun i => 4 - (intOf i).toNat)
        case atStart => exact ⟨0, by omega, rfl⟩
        case round =>
          obtain ⟨j, hj, rfl⟩ := hrel
          by_cases hj4 : j < 4
          · have j0 : (0 : Int) ≤ (j : Int) := by omega
            have j1 : (j : Int) < 4 := by omega
            have hx := HCX.out Wz hbz j hj4
            have hx0 : 0 ≤ ex p.2 j := HV.out j hj4
            generalize ex p.2 j = x at hx hx0
            go_wp2
            go_round
            case rel => exact ⟨j + 1, by omega, by go_num⟩
            case measure => simp [intOf]; omega
          · obtain rfl : j = 4 := by omega
            go_wp2
            go_roundw
            case rel => exact ⟨k + 1, by omega, by go_num, hbz⟩
            case measure => simp [intOf]; omega
    · obtain rfl : k = n := by omega
      go_wp2
      go_ret
      exact ⟨rfl, hb⟩
end Go.Proofs.Ytnknidfpkmnncaa
/- The law's is. -/
namespace Go.Proofs.Ytnknidfpkmnncaa
open Go.RowKit

set_option maxRecDepth 100000 in
set_option maxHeartbeats 1000000 in
theorem is_any (B : Nat) (A : Option Addr) (n c : Nat) (al : List Tm) (x : Ex) (k : Int) (M E : Nat) (w : World) (hB : B ≤ w.heap.size) (h : PolyC B w A n c al) (hn : n ≤ 1073741824) (hx : XSmall x M) (hE : ∀ p ∈ al, ESmall p.2 E) (hM : 0 < M) (hM2 : M ≤ 2147483648) (hE2 : E ≤ 1073741824) (hbig : l1 al * M ^ (4 * E) < big) (hk : -9223372036854775808 ≤ k) (hk2 : k ≤ 9223372036854775807) :
    Calls Try.prog 24 #[.slice A n c, .agg #[.int .i64 x.1, .int .i64 x.2.1, .int .i64 x.2.2.1, .int .i64 x.2.2.2], .int .i64 k] w (ValP (.bool (decide (ev x al = k))) w) := by
  have hbx : Below w.heap.size w (w.alloc (.cells #[.int .i64 x.1, .int .i64 x.2.1, .int .i64 x.2.2.1, .int .i64 x.2.2.2] 34)) := (Below.refl _ _).alloc (Nat.le_refl _) _
  have HC := Lib.hid (value_any B A n c al x M E _ (Nat.le_trans hB hbx.size) (h.below hbx (Nat.le_refl _)) hn hx hE hM hM2 hE2 hbig)
  have HD := Lib.hid (show (cmpI (ev x al) k == 0) = decide (ev x al = k) by rw [Bool.eq_iff_iff, beq_iff_eq, decide_eq_true_eq]; exact cmpI_zero)
  clear hx hE hbig h
  generalize ev x al = z at *
  go_enter Try.func24, Try.ntmps24
  go_wp2_with fail
  refine HC.out.mono ?_
  rintro e w1 ⟨A1, n1, c1, rfl, h1, hb1⟩
  have hb2 := hbx.trans (hb1.mono hbx.size)
  clear HC
  go_wp2_with fail
  refine (iof_any B k w1 (Nat.le_trans hB hb2.size) hk hk2).mono ?_
  rintro e w2 ⟨A2, n2, c2, rfl, h2, hb3⟩
  have h1' := h1.below hb3 (Nat.le_refl _)
  have hb4 := hb2.trans (hb3.mono hb2.size)
  clear h1 hb1 hb2 hb3
  go_wp2_with fail
  refine (icmpC_any B z k A1 A2 n1 c1 n2 c2 w2 h1' h2).mono ?_
  rintro e w3 ⟨rfl, hb5⟩
  go_wp2
  go_ret
  exact ⟨by rw [← HD.out]; rfl, hb4.trans (hb5.mono hb4.size)⟩
end Go.Proofs.Ytnknidfpkmnncaa
/- CheckpolySums: the law's walk. -/
namespace Go.Proofs.Ytnknidfpkmnncaa
open Go.RowKit

/-- Four zero cells, not frozen. -/
abbrev Zero4 (w' : World) (H : Nat) : Prop :=
  w'.cell? ⟨H, 0, none⟩ = some (.int .i64 0) ∧ w'.cell? ⟨H, 1, none⟩ = some (.int .i64 0) ∧ w'.cell? ⟨H, 2, none⟩ = some (.int .i64 0) ∧ w'.cell? ⟨H, 3, none⟩ = some (.int .i64 0) ∧
  w'.frozen? ⟨H, 0, none⟩ = false ∧ w'.frozen? ⟨H, 1, none⟩ = false ∧ w'.frozen? ⟨H, 2, none⟩ = false ∧ w'.frozen? ⟨H, 3, none⟩ = false
def ZBox (w : World) (g : Nat) : Prop := w.heap[g]? = some (.cells #[.int .i64 0, .int .i64 0, .int .i64 0, .int .i64 0] 34 (0, 0))
theorem ZBox.zero {w : World} {g : Nat} (h : ZBox w g) : Zero4 w g := by
  unfold ZBox at h
  have hc : ∀ k, w.cell? ⟨g, k, none⟩ = (#[.int .i64 0, .int .i64 0, .int .i64 0, .int .i64 0] : Array Value)[k]? := fun k => cell_of_row w g k _ _ _ h
  have hf : ∀ k, w.frozen? ⟨g, k, none⟩ = false := fun k => by simp [World.frozen?, h]
  exact ⟨hc 0, hc 1, hc 2, hc 3, hf 0, hf 1, hf 2, hf 3⟩
theorem ZBox.below {w w' : World} {g : Nat} (h : ZBox w g) (hb : Below w.heap.size w w') : ZBox w' g := (hb.block g (heap_lt h)).trans h
theorem ZBox.new (w : World) : ZBox (w.alloc (.cells #[.int .i64 0, .int .i64 0, .int .i64 0, .int .i64 0] 34)) w.heap.size := heap_alloc_new w _
/-- The box of four integers. -/
def XBox (w : World) (g : Nat) (x : Ex) : Prop := w.heap[g]? = some (.cells #[.int .i64 x.1, .int .i64 x.2.1, .int .i64 x.2.2.1, .int .i64 x.2.2.2] 34 (0, 0))
theorem ZBox.store {w : World} {g : Nat} (h : ZBox w g) (x : Ex) : XBox ((((w.setCell ⟨g, 0, none⟩ (.int .i64 x.1)).setCell ⟨g, 1, none⟩ (.int .i64 x.2.1)).setCell ⟨g, 2, none⟩ (.int .i64 x.2.2.1)).setCell ⟨g, 3, none⟩ (.int .i64 x.2.2.2)) g x := by
  unfold ZBox at h
  unfold XBox
  simp [World.setCell, Array.getElem?_modify, h]
theorem XBox.below {w w' : World} {g : Nat} {x : Ex} (h : XBox w g x) (hb : Below w.heap.size w w') : XBox w' g x := (hb.block g (heap_lt h)).trans h
abbrev HeldX (w' : World) (g : Nat) (x : Ex) : Prop :=
  w'.cell? ⟨g, 0, none⟩ = some (.int .i64 x.1) ∧ w'.cell? ⟨g, 1, none⟩ = some (.int .i64 x.2.1) ∧ w'.cell? ⟨g, 2, none⟩ = some (.int .i64 x.2.2.1) ∧ w'.cell? ⟨g, 3, none⟩ = some (.int .i64 x.2.2.2)
theorem XBox.held {w : World} {g : Nat} {x : Ex} (h : XBox w g x) : HeldX w g x := by
  unfold XBox at h
  have hc : ∀ k, w.cell? ⟨g, k, none⟩ = (#[.int .i64 x.1, .int .i64 x.2.1, .int .i64 x.2.2.1, .int .i64 x.2.2.2] : Array Value)[k]? := fun k => cell_of_row w g k _ _ _ h
  exact ⟨hc 0, hc 1, hc 2, hc 3⟩
theorem PolyC.setFar {B : Nat} {w : World} {A : Option Addr} {n c : Nat} {al : List Tm} (h : PolyC B w A n c al) {g : Nat} (hB : B ≤ g) (ht : Ty w g 34) (i : Nat) (v : Value) : PolyC B (w.setCell ⟨g, i, none⟩ v) A n c al := by
  obtain ⟨L, h⟩ := h
  exact ⟨L, h.row.setCell (by omega) (p := ⟨g, i, none⟩) hB ht (by decide) v, h.reps.mono fun t z _ hr => ⟨hr.1, hr.2.setCell (p := ⟨g, i, none⟩) hB ht (by decide) v⟩⟩
theorem ZBox.ty {w : World} {g : Nat} (h : ZBox w g) : Ty w g 34 := ⟨_, _, h⟩
theorem PolyC.store4 {B : Nat} {w : World} {A : Option Addr} {n c : Nat} {al : List Tm} (h : PolyC B w A n c al) {g : Nat} (hB : B ≤ g) (hz : ZBox w g) (v0 v1 v2 v3 : Value) :
    PolyC B ((((w.setCell ⟨g, 0, none⟩ v0).setCell ⟨g, 1, none⟩ v1).setCell ⟨g, 2, none⟩ v2).setCell ⟨g, 3, none⟩ v3) A n c al := by
  have t0 := hz.ty
  have t1 := t0.setCell ⟨g, 0, none⟩ v0
  have t2 := t1.setCell ⟨g, 1, none⟩ v1
  have t3 := t2.setCell ⟨g, 2, none⟩ v2
  exact (((h.setFar hB t0 0 v0).setFar hB t1 1 v1).setFar hB t2 2 v2).setFar hB t3 3 v3

/-- What the law's first statement leaves. -/
def SumsCut (B : Nat) (W : World) (x : Ex) (L L2 : List Tm) (v7 v8 v9 : Value) (wx : World) : Prop :=
  ∃ A1 n1 c1 A2 n2 c2 g, v7 = .slice A1 n1 c1 ∧ v8 = .slice A2 n2 c2 ∧ v9 = .pointer (some ⟨g, 0, none⟩) ∧ PolyC B wx A1 n1 c1 L ∧ PolyC B wx A2 n2 c2 L2 ∧ XBox wx g x ∧ Below W.heap.size W wx
theorem SumsCut.mk {B : Nat} {W w : World} {x : Ex} {L L2 : List Tm} {A1 A2 : Option Addr} {n1 c1 n2 c2 g : Nat} (h1 : PolyC B w A1 n1 c1 L) (h2 : PolyC B w A2 n2 c2 L2) (hz : ZBox w g) (hb : Below W.heap.size W w) (hg : W.heap.size ≤ g) (hB : B ≤ W.heap.size) :
    SumsCut B W x L L2 (.slice A1 n1 c1) (.slice A2 n2 c2) (.pointer (some ⟨g, 0, none⟩)) ((((w.setCell ⟨g, 0, none⟩ (.int .i64 x.1)).setCell ⟨g, 1, none⟩ (.int .i64 x.2.1)).setCell ⟨g, 2, none⟩ (.int .i64 x.2.2.1)).setCell ⟨g, 3, none⟩ (.int .i64 x.2.2.2)) :=
  ⟨A1, n1, c1, A2, n2, c2, g, rfl, rfl, rfl, h1.store4 (by omega) hz _ _ _ _, h2.store4 (by omega) hz _ _ _ _, hz.store x, (((hb.setCell hg _).setCell hg _).setCell hg _).setCell hg _⟩

theorem few6 (B : Nat) (A : Option Addr) (n c : Nat) (L : List Mono) (w : World) (h : MonoR B w A n c L) (hn : n ≤ 9223372036854775807) :
    Calls Try.prog 13 #[.slice A n c, .int .i64 6, .int .u8 3] w (FewP n 6 3 L w) :=
  few_any B A n c 6 3 L w h hn (by omega) (by omega) (by omega)
/-- The element k of the law's two lists. -/
def SumsAt (B : Nat) (x : Ex) (gl gn k : Nat) (wr : World) : Prop :=
  ∃ A n c al z, wr.cell? ⟨gl, k, none⟩ = some (.slice A n c) ∧ wr.cell? ⟨gn, k, none⟩ = some (.int .i64 z) ∧ PolyC B wr A n c al ∧ n ≤ 12 ∧ Canon al ∧ l1 al ≤ 1536 ∧ AllE al 3 ∧ ev x al = z ∧ -4611686018427387904 ≤ z ∧ z ≤ 4611686018427387904
theorem SumsAt.below {B : Nat} {x : Ex} {gl gn k : Nat} {w w' : World} (h : SumsAt B x gl gn k w) (hb : Below w.heap.size w w') : SumsAt B x gl gn k w' := by
  obtain ⟨A, n, c, al, z, h1, h2, h3, h4⟩ := h
  have l1 := World.block_lt_of_cell? w _ h1
  have l2 := World.block_lt_of_cell? w _ h2
  exact ⟨A, n, c, al, z, (hb.cell (p := ⟨gl, k, none⟩) l1).trans h1, (hb.cell (p := ⟨gn, k, none⟩) l2).trans h2, h3.below hb (Nat.le_refl _), h4⟩
end Go.Proofs.Ytnknidfpkmnncaa
/- checkpoly.Exact: what its walk carries. -/
namespace Go.Proofs.Ytnknidfpkmnncaa
open Go.RowKit

theorem Row.grownFar {B T : Nat} {w w' : World} {A : Option Addr} {n c z : Nat} {cs : List Value} (h : Row B T w A n c z cs) (hz : 0 < z) {row : Option Nat} (hg : w.grownBy w' row) (hf : ∀ ad, A = some ad → some ad.block ≠ row) : Row B T w' A n c z cs :=
  h.keep (fun ad ha _ hl _ => hg.block ad.block hl (hf ad ha)) hz
theorem PolyC.grownFar {B : Nat} {w w' : World} {A : Option Addr} {n c : Nat} {al : List Tm} (h : PolyC B w A n c al) {base m : Nat} {v : Value} {xs : List Value} (hown : w.ownsRow base 80 6 v m xs) (hg : w.grownBy w' v.ownBlock) (hB : B ≤ base) (hf : ∀ ad, A = some ad → some ad.block ≠ v.ownBlock) : PolyC B w' A n c al := by
  obtain ⟨L, h⟩ := h
  exact ⟨L, h.row.grownFar (by omega) hg hf, h.reps.mono fun t z _ hr => hr.grown hown hg hB (by decide)⟩
theorem TBox.grown {w w' : World} {g : Nat} {b : Bool} {A : Option Addr} {n c : Nat} {e : Ex} (h : TBox w g b A n c e) {row : Option Nat} (hg : w.grownBy w' row) (hf : some g ≠ row) : TBox w' g b A n c e :=
  (hg.block g (heap_lt h) hf).trans h
theorem TBox.below {w w' : World} {g : Nat} {b : Bool} {A : Option Addr} {n c : Nat} {e : Ex} (h : TBox w g b A n c e) (hb : Below w.heap.size w w') : TBox w' g b A n c e := (hb.block g (heap_lt h)).trans h
theorem TBox.coef {w : World} {g : Nat} {b : Bool} {A : Option Addr} {n c : Nat} {e : Ex} (h : TBox w g b A n c e) {b' : Bool} {A' : Option Addr} {n' c' : Nat} :
    TBox ((w.setCell ⟨g, 0, none⟩ (.bool b')).setCell ⟨g, 1, none⟩ (.slice A' n' c')) g b' A' n' c' e := by
  unfold TBox at *
  simp [World.setCell, Array.getElem?_modify, h]
theorem IBox.setFar {B : Nat} {w : World} {g g' : Nat} {z : Int} {T : TypeId} (h : IBox B w g z) (hB : B ≤ g') (ht : Ty w g' T) (hT : 109 ≠ T) (hne : g ≠ g') (i : Nat) (u : Value) : IBox B (w.setCell ⟨g', i, none⟩ u) g z := by
  obtain ⟨A, n, c, h1, h2⟩ := h
  refine ⟨A, n, c, ?_, h2.setCell (p := ⟨g', i, none⟩) hB ht hT u⟩
  rw [Below.heap_setCell _ _ _ _ hne]
  exact h1
/-- The exponents with the first j taken away. -/
def unmix (j : Nat) (e f : Ex) : Ex := (if 0 < j then e.1 - f.1 else e.1, if 1 < j then e.2.1 - f.2.1 else e.2.1, if 2 < j then e.2.2.1 - f.2.2.1 else e.2.2.1, if 3 < j then e.2.2.2 - f.2.2.2 else e.2.2.2)
/-- The boxes of a round: the new term, its coefficient. -/
structure QSt (B : Nat) (W : World) (g gc : Nat) (z : Int) (e : Ex) (wr : World) : Prop where
  box : TBox wr g false none 0 0 e
  ib : IBox B wr gc z
  below : Below W.heap.size W wr
theorem QSt.set {B : Nat} {W : World} {g gc : Nat} {z : Int} {e e' : Ex} {wr : World} (h : QSt B W g gc z e wr) (hB : B ≤ g) (hW : W.heap.size ≤ g) (hne : gc ≠ g) {i : Nat} {v : Value} (hb : TBox (wr.setCell ⟨g, i, none⟩ v) g false none 0 0 e') : QSt B W g gc z e' (wr.setCell ⟨g, i, none⟩ v) :=
  ⟨hb, h.ib.setFar hB h.box.ty (by decide) hne i v, h.below.setCell hW v⟩
/-- What a division of coefficients returns in a round, before or behind the box of the quotient. -/
def DvA (B : Nat) (W : World) (z k : Int) (e : Ending) (w3 : World) : Prop :=
  ∃ A n c, e = .returned (.tuple #[.agg #[.bool (decide (z < 0)), .slice A n c], .int .i64 k]) ∧ Dig B w3 A n c (digs z.natAbs) ∧ Below W.heap.size W w3
abbrev Zero2 (w' : World) (H : Nat) : Prop :=
  w'.cell? ⟨H, 0, none⟩ = some (.bool false) ∧ w'.cell? ⟨H, 1, none⟩ = some (.slice none 0 0) ∧ w'.frozen? ⟨H, 0, none⟩ = false ∧ w'.frozen? ⟨H, 1, none⟩ = false
def DvB (B : Nat) (W : World) (z k : Int) (e : Ending) (w3 : World) : Prop :=
  ∃ A n c, e = .returned (.tuple #[.agg #[.bool (decide (z < 0)), .slice A n c], .int .i64 k]) ∧ Dig B w3 A n c (digs z.natAbs) ∧ Below W.heap.size W w3 ∧ IBox B w3 W.heap.size 0 ∧ Zero2 w3 W.heap.size
theorem IBox.zero {B : Nat} (W : World) : IBox B (W.alloc (.cells #[.bool false, .slice none 0 0] 46)) W.heap.size 0 :=
  ⟨none, 0, 0, heap_alloc_new W _, by rw [show (0 : Int).natAbs = 0 from rfl, digs_zero]; exact Dig.nil⟩
theorem zero2_box (W : World) {w3 : World} (h : Below (W.alloc (.cells #[.bool false, .slice none 0 0] 46)).heap.size (W.alloc (.cells #[.bool false, .slice none 0 0] 46)) w3) : Zero2 w3 W.heap.size := by
  have hh : w3.heap[W.heap.size]? = some (.cells #[.bool false, .slice none 0 0] 46 (0, 0)) := (h.block _ (by simp)).trans (heap_alloc_new W _)
  refine ⟨?_, ?_, ?_, ?_⟩
  · rw [cell_of_row w3 _ 0 _ _ _ hh]; rfl
  · rw [cell_of_row w3 _ 1 _ _ _ hh]; rfl
  · simp [World.frozen?, hh]
  · simp [World.frozen?, hh]
def slN : Value → Nat
  | .slice _ n _ => n
  | _ => 0
/-- What Exact returns. -/
def PExP (B : Nat) (r : Option (List Tm)) (w : World) (e : Ending) (w' : World) : Prop :=
  (∃ h A n c, r = some h ∧ e = .returned (.tuple #[.slice A n c, .bool true]) ∧ PolyC B w' A n c (nf h) ∧ Below w.heap.size w w') ∨ (r = none ∧ e = .returned (.tuple #[.slice none 0 0, .bool false]) ∧ Below w.heap.size w w')

theorem exactp_zero (B : Nat) (A A2 : Option Addr) (n c n2 c2 : Nat) (al bl : List Tm) (w : World) (hB : B ≤ w.heap.size) (h : PolyW B w A n c al) (h2 : PolyW B w A2 n2 c2 bl) (hn : n < sortLim) (hn2 : n2 < sortLim) (hl : l1 al < big) (hl2 : l1 bl < big) (hz : nf bl = []) :
    Calls Try.prog 37 #[.slice A n c, .slice A2 n2 c2] w (PExP B none w) := by
  go_enter Try.func37, Try.ntmps37
  go_wp2_with fail
  refine (normalp_any B A n c al _ hB h hn hl).mono ?_
  rintro e w1 ⟨A1, n1, c1, rfl, h1, hb1⟩
  go_wp2_with fail
  refine (normalp_any B A2 n2 c2 bl _ (Nat.le_trans hB hb1.size) (h2.below hb1 (Nat.le_refl _)) hn2 hl2).mono ?_
  rintro e w3 ⟨A3, n3, c3, rfl, h3, hb3⟩
  obtain rfl : n3 = 0 := by have h4 := h3.len; rw [hz] at h4; exact h4.symm
  have HB := Lib.hid (hb1.trans (hb3.mono hb1.size))
  clear h1 h3 hb1 hb3 h h2 hz
  go_wp2
  go_ret2
  exact .inr ⟨rfl, rfl, HB.out⟩
theorem PolyC.single {B : Nat} {w : World} {A : Option Addr} {n c : Nat} {z : Int} (h : Dig B w A n c (digs z.natAbs)) (e : Ex) :
    PolyC B (w.alloc (.cells #[.bool (decide (z < 0)), .slice A n c, .int .i64 e.1, .int .i64 e.2.1, .int .i64 e.2.2.1, .int .i64 e.2.2.2] 80)) (some ⟨w.heap.size, 0, none⟩) 1 1 [(z, e)] := by
  have h1 := Row.new B 80 w 1 6 #[.bool (decide (z < 0)), .slice A n c, .int .i64 e.1, .int .i64 e.2.1, .int .i64 e.2.2.1, .int .i64 e.2.2.2] rfl (by omega)
  exact ⟨[⟨decide (z < 0), A, n, c, e⟩], h1, Reps.one rfl ⟨rfl, h.below ((Below.refl _ _).alloc (Nat.le_refl _) _) (Nat.le_refl _)⟩⟩
/-- What a round's numbers are good for. -/
theorem exBd_facts {p t : Tm} {rest d' : List Tm} {z : Int} {qe : Ex} (h : ExBd (p :: rest) (t :: d')) (hz : (z, qe) = exQ p t) (hp : p.1 ≠ 0) :
    l1 [(z, qe)] < big ∧ l1 (t :: d') < big ∧ l1 (p :: rest) < big ∧ l1 [(z, qe)] * l1 (t :: d') < big ∧ l1 (p :: rest) + l1 (mulL [(z, qe)] (t :: d')) < big ∧ (mulL [(z, qe)] (t :: d')).length ≤ (t :: d').length ∧ l1 (mulL [(z, qe)] (t :: d')) < big := by
  have h1 := h.l1
  have h2 := mid_le_big
  have h3 : l1 [(z, qe)] ≤ l1 (p :: rest) := by
    rw [hz, l1_cons, l1_nil, l1_cons]
    show (p.1.tdiv t.1).natAbs + 0 ≤ _
    rw [Int.natAbs_tdiv, Nat.add_zero]
    exact Nat.le_trans (Nat.div_le_self _ _) (Nat.le_add_right _ _)
  have h4 : l1 (mulL [(z, qe)] (t :: d')) ≤ l1 [(z, qe)] * l1 (t :: d') := l1_nf_mul _ _
  have h5 : l1 [(z, qe)] * l1 (t :: d') ≤ l1 (p :: rest) * l1 (t :: d') := Nat.mul_le_mul_right _ h3
  rw [Nat.mul_add] at h1
  have h6 : (mulL [(z, qe)] (t :: d')).length ≤ 1 * (t :: d').length := length_nf_mul [(z, qe)] (t :: d')
  have h7 : l1 (t :: d') < big := by
    have h8 : 0 < l1 (p :: rest) := by rw [l1_cons]; omega
    have h9 : l1 (t :: d') ≤ l1 (p :: rest) * l1 (t :: d') := Nat.le_mul_of_pos_left _ h8
    omega
  refine ⟨by omega, h7, by omega, by omega, by omega, by omega, by omega⟩
end Go.Proofs.Ytnknidfpkmnncaa
