/- F3, V3, V4, V5, E2, V6, W1, W3, W2. -/
import Derived.Test.YtnknidfpkmnncaaGreatM4
import Derived.Test.YtnknidfpkmnncaaGreatM5
import Derived.Deep.Slices
import Derived.ChangeSame
import Derived.OpenShut
import Derived.Test.YtnknidfpkmnncaaGreatM3
/- The law's value of a polynomial at four integers. -/
namespace Go.Proofs.YtnknidfpkmnncaaGreat
open Go.RowKit

/-- Block g is a box of the integer z. -/
def IBox (B : Nat) (w : World) (g : Nat) (z : Int) : Prop :=
  ∃ A n c, w.heap[g]? = some (.cells #[.bool (decide (z < 0)), .slice A n c] 53 (0, 0)) ∧ Dig B w A n c (digs z.natAbs)
theorem heap_lt {w : World} {g : Nat} {o : Obj} (h : w.heap[g]? = some o) : g < w.heap.size := (Array.getElem?_eq_some_iff.1 h).1
theorem IBox.lt {B : Nat} {w : World} {g : Nat} {z : Int} (h : IBox B w g z) : g < w.heap.size := by
  obtain ⟨A, n, c, h1, _⟩ := h
  exact heap_lt h1
theorem IBox.below {B : Nat} {w w' : World} {g : Nat} {z : Int} (h : IBox B w g z) (hb : Below w.heap.size w w') : IBox B w' g z := by
  have hl := h.lt
  obtain ⟨A, n, c, h1, h2⟩ := h
  exact ⟨A, n, c, (hb.block g hl).trans h1, h2.below hb (Nat.le_refl _)⟩
theorem IBox.new {B : Nat} {w : World} {z : Int} {A : Option Addr} {n c : Nat} (h : Dig B w A n c (digs z.natAbs)) : IBox B (w.alloc (.cells #[.bool (decide (z < 0)), .slice A n c] 53)) w.heap.size z :=
  ⟨A, n, c, heap_alloc_new w _, h.below ((Below.refl _ _).alloc (Nat.le_refl _) _) (Nat.le_refl _)⟩
theorem IBox.ty {B : Nat} {w : World} {g : Nat} {z : Int} (h : IBox B w g z) : Ty w g 53 := by
  obtain ⟨A, n, c, h1, _⟩ := h
  exact ⟨_, _, h1⟩
theorem IBox.store {B : Nat} {w : World} {g : Nat} {z z' : Int} (h : IBox B w g z) (hB : B ≤ g) {A : Option Addr} {n c : Nat} (hd : Dig B w A n c (digs z'.natAbs)) : IBox B ((w.setCell ⟨g, 0, none⟩ (.bool (decide (z' < 0)))).setCell ⟨g, 1, none⟩ (.slice A n c)) g z' := by
  have ht := h.ty
  obtain ⟨A1, n1, c1, h1, _⟩ := h
  refine ⟨A, n, c, ?_, hd.result hB ht _ _⟩
  simp [World.setCell, Array.getElem?_modify, h1]
theorem IBox.other {B : Nat} {w : World} {g g' : Nat} {z : Int} {T : TypeId} (h : IBox B w g z) (hB : B ≤ g') (ht : Ty w g' T) (hT : 83 ≠ T) (hne : g ≠ g') (u v : Value) : IBox B ((w.setCell ⟨g', 0, none⟩ u).setCell ⟨g', 1, none⟩ v) g z := by
  obtain ⟨A, n, c, h1, h2⟩ := h
  refine ⟨A, n, c, ?_, (h2.setCell (p := ⟨g', 0, none⟩) hB ht hT u).setCell (p := ⟨g', 1, none⟩) hB (ht.setCell _ _) hT v⟩
  rw [Below.heap_setCell _ _ _ _ hne, Below.heap_setCell _ _ _ _ hne]
  exact h1
/-- The cells of a box. -/
theorem IBox.cells {B : Nat} {w : World} {g : Nat} {z : Int} (h : IBox B w g z) : ∃ A n c, w.cell? ⟨g, 0, none⟩ = some (.bool (decide (z < 0))) ∧ w.cell? ⟨g, 1, none⟩ = some (.slice A n c) ∧ w.frozen? ⟨g, 0, none⟩ = false ∧ w.frozen? ⟨g, 1, none⟩ = false ∧ Dig B w A n c (digs z.natAbs) := by
  obtain ⟨A, n, c, h1, h2⟩ := h
  refine ⟨A, n, c, ?_, ?_, ?_, ?_, h2⟩
  · rw [cell_of_row w g 0 _ _ _ h1]; rfl
  · rw [cell_of_row w g 1 _ _ _ h1]; rfl
  · simp [World.frozen?, h1]
  · simp [World.frozen?, h1]

/-- The state of value's loops: the box of x, the result's box, the box of the sum. -/
structure VSt (B : Nat) (w : World) (x : Ex) (g : Nat) (z : Int) (wr : World) : Prop where
  xb : wr.heap[w.heap.size]? = some (.cells #[.int .i64 x.1, .int .i64 x.2.1, .int .i64 x.2.2.1, .int .i64 x.2.2.2] 55 (0, 0))
  rb : wr.heap[w.heap.size + 1]? = some (.cells #[.bool false, .slice none 0 0] 53 (0, 0))
  vb : IBox B wr g z
  hg : w.heap.size + 1 < g
  below : Below w.heap.size w wr
theorem VSt.later {B : Nat} {w : World} {x : Ex} {g : Nat} {z : Int} {wr w1 : World} (h : VSt B w x g z wr) (hb : Below wr.heap.size wr w1) : VSt B w x g z w1 :=
  ⟨(hb.block _ (heap_lt h.xb)).trans h.xb, (hb.block _ (heap_lt h.rb)).trans h.rb, h.vb.below hb, h.hg, h.below.trans (hb.mono h.below.size)⟩
theorem VSt.tstore {B : Nat} {w : World} {x : Ex} {g g' : Nat} {z : Int} {wr : World} (h : VSt B w x g z wr) (hB : B ≤ w.heap.size) (hg' : w.heap.size + 1 < g') (ht : Ty wr g' 53) (hne : g ≠ g') (u v : Value) : VSt B w x g z ((wr.setCell ⟨g', 0, none⟩ u).setCell ⟨g', 1, none⟩ v) := by
  refine ⟨?_, ?_, h.vb.other (by omega) ht (by decide) hne u v, h.hg, (h.below.setCell (by show w.heap.size ≤ g'; omega) u).setCell (by show w.heap.size ≤ g'; omega) v⟩
  · rw [Below.heap_setCell _ _ _ _ (by show _ ≠ g'; omega), Below.heap_setCell _ _ _ _ (by show _ ≠ g'; omega)]; exact h.xb
  · rw [Below.heap_setCell _ _ _ _ (by show _ ≠ g'; omega), Below.heap_setCell _ _ _ _ (by show _ ≠ g'; omega)]; exact h.rb
theorem VSt.vstore {B : Nat} {w : World} {x : Ex} {g : Nat} {z z' : Int} {wr : World} (h : VSt B w x g z wr) (hB : B ≤ w.heap.size) {A : Option Addr} {n c : Nat} (hd : Dig B wr A n c (digs z'.natAbs)) : VSt B w x g z' ((wr.setCell ⟨g, 0, none⟩ (.bool (decide (z' < 0)))).setCell ⟨g, 1, none⟩ (.slice A n c)) := by
  have hg := h.hg
  refine ⟨?_, ?_, h.vb.store (by omega) hd, h.hg, (h.below.setCell (by show w.heap.size ≤ g; omega) _).setCell (by show w.heap.size ≤ g; omega) _⟩
  · rw [Below.heap_setCell _ _ _ _ (by show _ ≠ g; omega), Below.heap_setCell _ _ _ _ (by show _ ≠ g; omega)]; exact h.xb
  · rw [Below.heap_setCell _ _ _ _ (by show _ ≠ g; omega), Below.heap_setCell _ _ _ _ (by show _ ≠ g; omega)]; exact h.rb
theorem VSt.xcell {B : Nat} {w : World} {x : Ex} {g : Nat} {z : Int} {wr : World} (h : VSt B w x g z wr) (k : Nat) (hk : k < 4) : wr.cell? ⟨w.heap.size, k, none⟩ = some (.int .i64 (ex x k)) := by
  obtain ⟨a, b, c, d⟩ := x
  exact ex_cell wr _ a b c d h.xb k hk
theorem digs_le_big {z : Nat} (h : z < big) : (digs z).length ≤ 1099511627776 := by
  unfold big at h
  exact digs_length_le h
theorem iv_digs (z : Int) : iv (decide (z < 0)) (val (digs z.natAbs)) = z := by
  rw [val_digs]
  unfold iv
  by_cases hz : z < 0
  · rw [if_pos (by simpa using hz)]; omega
  · rw [if_neg (by simpa using hz)]; omega
/-- Products and sums of canonical integers. -/
theorem imulC_any (B : Nat) (a b : Int) (A A2 : Option Addr) (n c n2 c2 : Nat) (w : World) (hB : B ≤ w.heap.size) (hx : Dig B w A n c (digs a.natAbs)) (hy : Dig B w A2 n2 c2 (digs b.natAbs)) (ha : a.natAbs < big) (hb : b.natAbs < big) :
    Calls Tryz.prog 36 #[.agg #[.bool (decide (a < 0)), .slice A n c], .agg #[.bool (decide (b < 0)), .slice A2 n2 c2]] w (IntP B (a * b) w) := by
  have h := imul_any B (decide (a < 0)) (decide (b < 0)) A A2 n c n2 c2 _ _ w hB hx hy (by rw [← hx.len]; exact digs_le_big ha) (by rw [← hy.len]; exact digs_le_big hb)
  rw [iv_digs, iv_digs] at h
  exact h
theorem iaddC_any (B : Nat) (a b : Int) (A A2 : Option Addr) (n c n2 c2 : Nat) (w : World) (hB : B ≤ w.heap.size) (hx : Dig B w A n c (digs a.natAbs)) (hy : Dig B w A2 n2 c2 (digs b.natAbs)) (ha : a.natAbs < big) (hb : b.natAbs < big) :
    Calls Tryz.prog 31 #[.agg #[.bool (decide (a < 0)), .slice A n c], .agg #[.bool (decide (b < 0)), .slice A2 n2 c2]] w (IntP B (a + b) w) := by
  have h := iadd_any B (decide (a < 0)) (decide (b < 0)) A A2 n c n2 c2 _ _ w hB hx hy (by rw [← hx.len]; exact digs_le_big ha) (by rw [← hy.len]; exact digs_le_big hb)
  rw [iv_digs, iv_digs] at h
  exact h
theorem icmpC_any (B : Nat) (a b : Int) (A A2 : Option Addr) (n c n2 c2 : Nat) (w : World) (hx : Dig B w A n c (digs a.natAbs)) (hy : Dig B w A2 n2 c2 (digs b.natAbs)) :
    Calls Tryz.prog 51 #[.agg #[.bool (decide (a < 0)), .slice A n c], .agg #[.bool (decide (b < 0)), .slice A2 n2 c2]] w (ValP (.int .i64 (cmpI a b)) w) := by
  have h := icmp_any B (decide (a < 0)) (decide (b < 0)) A A2 n c n2 c2 _ _ w hx hy
  rw [iv_digs, iv_digs] at h
  exact h
end Go.Proofs.YtnknidfpkmnncaaGreat
/- division.zero, Quo, Exact, for a divisor that is not 0. -/
namespace Go.Proofs.YtnknidfpkmnncaaGreat
open Go.RowKit

theorem dzero_any (B : Nat) (neg : Bool) (A : Option Addr) (n c : Nat) (xs : List Nat) (w : World) (h : Dig B w A n c xs) :
    Calls Tryz.prog 100 #[.agg #[.bool neg, .slice A n c]] w (ValP (.bool (decide (val xs = 0))) w) := by
  have hbw : Below w.heap.size w (w.alloc (.cells #[.bool neg, .slice A n c] 53)) := (Below.refl _ _).alloc (Nat.le_refl _) _
  have HQ := Lib.hid (isZero_any B _ _ _ _ _ (h.below hbw (Nat.le_refl _)))
  go_enter Tryz.func100, Tryz.ntmps100
  go_wp2_with fail
  refine HQ.out.mono ?_
  rintro e w1 ⟨rfl, rfl⟩
  go_wp2
  go_ret
  exact ⟨rfl, hbw⟩

/-- The four blocks that a function of two Ints with two Ints as results lays at its start. -/
structure Box4 (w : World) (neg neg2 : Bool) (A A2 : Option Addr) (n c n2 c2 : Nat) (wr : World) : Prop where
  a0 : wr.cell? ⟨w.heap.size, 0, none⟩ = some (.bool neg)
  a1 : wr.cell? ⟨w.heap.size, 1, none⟩ = some (.slice A n c)
  b0 : wr.cell? ⟨w.heap.size + 1, 0, none⟩ = some (.bool neg2)
  b1 : wr.cell? ⟨w.heap.size + 1, 1, none⟩ = some (.slice A2 n2 c2)
  r0 : wr.cell? ⟨w.heap.size + 1 + 1, 0, none⟩ = some (.bool false)
  r1 : wr.cell? ⟨w.heap.size + 1 + 1, 1, none⟩ = some (.slice none 0 0)
  s0 : wr.cell? ⟨w.heap.size + 1 + 1 + 1, 0, none⟩ = some (.bool false)
  s1 : wr.cell? ⟨w.heap.size + 1 + 1 + 1, 1, none⟩ = some (.slice none 0 0)
  fr0 : wr.frozen? ⟨w.heap.size + 1 + 1, 0, none⟩ = false
  fr1 : wr.frozen? ⟨w.heap.size + 1 + 1, 1, none⟩ = false
  fs0 : wr.frozen? ⟨w.heap.size + 1 + 1 + 1, 0, none⟩ = false
  fs1 : wr.frozen? ⟨w.heap.size + 1 + 1 + 1, 1, none⟩ = false
  size : w.heap.size + 1 + 1 + 1 < wr.heap.size
  ty : Ty wr (w.heap.size + 1 + 1) 53
  ty2 : Ty wr (w.heap.size + 1 + 1 + 1) 53
  below : Below w.heap.size w wr
section
variable {w wr w1 : World} {neg neg2 : Bool} {A A2 : Option Addr} {n c n2 c2 : Nat}
theorem Box4.start (w : World) (neg neg2 : Bool) (A A2 : Option Addr) (n c n2 c2 : Nat) :
    Box4 w neg neg2 A A2 n c n2 c2 ((((w.alloc (.cells #[.bool neg, .slice A n c] 53)).alloc (.cells #[.bool neg2, .slice A2 n2 c2] 53)).alloc (.cells #[.bool false, .slice none 0 0] 53)).alloc (.cells #[.bool false, .slice none 0 0] 53)) where
  a0 := by go_simp
  a1 := by go_simp
  b0 := by go_simp
  b1 := by go_simp
  r0 := by go_simp
  r1 := by go_simp
  s0 := by go_simp
  s1 := by go_simp
  fr0 := by go_simp
  fr1 := by go_simp
  fs0 := by go_simp
  fs1 := by go_simp
  size := by simp
  ty := by
    have := (Ty.new ((w.alloc (.cells #[.bool neg, .slice A n c] 53)).alloc (.cells #[.bool neg2, .slice A2 n2 c2] 53)) #[.bool false, .slice none 0 0] 53 (0, 0)).alloc (.cells #[.bool false, .slice none 0 0] 53)
    simpa using this
  ty2 := by
    have := Ty.new (((w.alloc (.cells #[.bool neg, .slice A n c] 53)).alloc (.cells #[.bool neg2, .slice A2 n2 c2] 53)).alloc (.cells #[.bool false, .slice none 0 0] 53)) #[.bool false, .slice none 0 0] 53 (0, 0)
    simpa using this
  below := ((below_box2 w _ _).alloc (by simp; omega) _).alloc (by simp; omega) _
theorem Box4.next (h : Box4 w neg neg2 A A2 n c n2 c2 wr) (hb : Below wr.heap.size wr w1) : Box4 w neg neg2 A A2 n c n2 c2 w1 where
  a0 := (hb.cell (by have := h.size; show w.heap.size < _; omega)).trans h.a0
  a1 := (hb.cell (by have := h.size; show w.heap.size < _; omega)).trans h.a1
  b0 := (hb.cell (by have := h.size; show w.heap.size + 1 < _; omega)).trans h.b0
  b1 := (hb.cell (by have := h.size; show w.heap.size + 1 < _; omega)).trans h.b1
  r0 := (hb.cell (by have := h.size; show w.heap.size + 1 + 1 < _; omega)).trans h.r0
  r1 := (hb.cell (by have := h.size; show w.heap.size + 1 + 1 < _; omega)).trans h.r1
  s0 := (hb.cell (by exact h.size)).trans h.s0
  s1 := (hb.cell (by exact h.size)).trans h.s1
  fr0 := (hb.frozen (by have := h.size; show w.heap.size + 1 + 1 < _; omega)).trans h.fr0
  fr1 := (hb.frozen (by have := h.size; show w.heap.size + 1 + 1 < _; omega)).trans h.fr1
  fs0 := (hb.frozen (by exact h.size)).trans h.fs0
  fs1 := (hb.frozen (by exact h.size)).trans h.fs1
  size := by have := hb.size; have := h.size; omega
  ty := h.ty.below hb (Nat.le_refl _)
  ty2 := h.ty2.below hb (Nat.le_refl _)
  below := h.below.trans (hb.mono (by have := h.size; omega))
theorem Box4.drew (h : Box4 w neg neg2 A A2 n c n2 c2 wr) : Box4 w neg neg2 A A2 n c n2 c2 wr.drew := h.next ((Below.refl _ _).drew)
/-- What the arguments' boxes hold. -/
abbrev Held22 (w : World) (neg neg2 : Bool) (A A2 : Option Addr) (n c n2 c2 : Nat) (wr : World) : Prop :=
  wr.cell? ⟨w.heap.size, 0, none⟩ = some (.bool neg) ∧ wr.cell? ⟨w.heap.size, 1, none⟩ = some (.slice A n c) ∧ wr.cell? ⟨w.heap.size + 1, 0, none⟩ = some (.bool neg2) ∧ wr.cell? ⟨w.heap.size + 1, 1, none⟩ = some (.slice A2 n2 c2)
theorem Box4.held (h : Box4 w neg neg2 A A2 n c n2 c2 wr) : Held22 w neg neg2 A A2 n c n2 c2 wr := ⟨h.a0, h.a1, h.b0, h.b1⟩
theorem Held22.set {k i : Nat} (h : Held22 w neg neg2 A A2 n c n2 c2 wr) (hk : w.heap.size + 1 < k) (u : Value) : Held22 w neg neg2 A A2 n c n2 c2 (wr.setCell ⟨k, i, none⟩ u) := by
  have e : ∀ (q : Addr), k ≠ q.block → (wr.setCell ⟨k, i, none⟩ u).cell? q = wr.cell? q := fun q hne => World.cell?_setCell_other wr _ q u (fun he => hne (by rw [← he]))
  obtain ⟨h1, h2, h3, h4⟩ := h
  exact ⟨(e _ (by show k ≠ w.heap.size; omega)).trans h1, (e _ (by show k ≠ w.heap.size; omega)).trans h2, (e _ (by show k ≠ w.heap.size + 1; omega)).trans h3, (e _ (by show k ≠ w.heap.size + 1; omega)).trans h4⟩
theorem Box4.heldSet (h : Box4 w neg neg2 A A2 n c n2 c2 wr) (u v : Value) : Held22 w neg neg2 A A2 n c n2 c2 ((wr.setCell ⟨w.heap.size + 1 + 1, 0, none⟩ u).setCell ⟨w.heap.size + 1 + 1, 1, none⟩ v) :=
  (h.held.set (by omega) u).set (by omega) v
theorem Box4.heldSet2 (h : Box4 w neg neg2 A A2 n c n2 c2 wr) (u v u' v' : Value) : Held22 w neg neg2 A A2 n c n2 c2 ((((wr.setCell ⟨w.heap.size + 1 + 1, 0, none⟩ u).setCell ⟨w.heap.size + 1 + 1, 1, none⟩ v).setCell ⟨w.heap.size + 1 + 1 + 1, 0, none⟩ u').setCell ⟨w.heap.size + 1 + 1 + 1, 1, none⟩ v') :=
  ((h.heldSet u v).set (by omega) u').set (by omega) v'
/-- Quotient, rounded toward zero, and remainder. -/
def QuoP (B : Nat) (a b : Int) (w : World) (e : Ending) (w' : World) : Prop :=
  ∃ A1 n1 c1 A2 n2 c2, e = .returned (.tuple #[.agg #[.bool (decide (a.tdiv b < 0)), .slice A1 n1 c1], .agg #[.bool (decide (a.tmod b < 0)), .slice A2 n2 c2], .int .i64 0]) ∧ Dig B w' A1 n1 c1 (digs (a.tdiv b).natAbs) ∧ Dig B w' A2 n2 c2 (digs (a.tmod b).natAbs) ∧ Below w.heap.size w w'
theorem Box4.done {B : Nat} {A' A'' : Option Addr} {n' c' n'' c'' : Nat} {a b : Int} (h : Box4 w neg neg2 A A2 n c n2 c2 wr) (hB : B ≤ w.heap.size) (hd : Dig B wr A' n' c' (digs (a.tdiv b).natAbs)) (hd2 : Dig B wr A'' n'' c'' (digs (a.tmod b).natAbs)) (u v u' v' : Value) :
    QuoP B a b w (.returned (.tuple #[.agg #[.bool (decide (a.tdiv b < 0)), .slice A' n' c'], .agg #[.bool (decide (a.tmod b < 0)), .slice A'' n'' c''], .int .i64 0])) ((((wr.setCell ⟨w.heap.size + 1 + 1, 0, none⟩ u).setCell ⟨w.heap.size + 1 + 1, 1, none⟩ v).setCell ⟨w.heap.size + 1 + 1 + 1, 0, none⟩ u').setCell ⟨w.heap.size + 1 + 1 + 1, 1, none⟩ v') :=
  ⟨A', n', c', A'', n'', c'', rfl, (hd.result (by omega) h.ty _ _).result (by omega) ((h.ty2.setCell _ _).setCell _ _) _ _, (hd2.result (by omega) h.ty _ _).result (by omega) ((h.ty2.setCell _ _).setCell _ _) _ _,
    (((h.below.setCell (by show w.heap.size ≤ w.heap.size + 1 + 1; omega) _).setCell (by show w.heap.size ≤ w.heap.size + 1 + 1; omega) _).setCell (by show w.heap.size ≤ w.heap.size + 1 + 1 + 1; omega) _).setCell (by show w.heap.size ≤ w.heap.size + 1 + 1 + 1; omega) _⟩
end
theorem iv_tdiv (neg neg2 : Bool) (x y : Nat) : iv (!(neg == neg2)) (x / y) = (iv neg x).tdiv (iv neg2 y) ∧ iv neg (x % y) = (iv neg x).tmod (iv neg2 y) := by
  have h1 := Int.tmod_eq_emod_of_nonneg (b := (y : Int)) (Int.natCast_nonneg x)
  cases neg <;> cases neg2 <;> simp [iv, Int.neg_tdiv, Int.tdiv_neg, Int.neg_tmod, Int.tmod_neg, h1]

set_option maxRecDepth 100000 in
set_option maxHeartbeats 2000000 in
theorem quo_any (B : Nat) (neg neg2 : Bool) (A A2 : Option Addr) (n c n2 c2 : Nat) (xs ys : List Nat) (w : World) (hB : B ≤ w.heap.size) (hx : Dig B w A n c xs) (hy : Dig B w A2 n2 c2 ys) (hn : n ≤ 536870912) (hn2 : n2 ≤ 536870912) (hz : val ys ≠ 0) :
    Calls Tryz.prog 99 #[.agg #[.bool neg, .slice A n c], .agg #[.bool neg2, .slice A2 n2 c2]] w (QuoP B (iv neg (val xs)) (iv neg2 (val ys)) w) := by
  have hb := Box4.start w neg neg2 A A2 n c n2 c2
  have hx1 := hx.below hb.below (Nat.le_refl _)
  have hy1 := hy.below hb.below (Nat.le_refl _)
  have hq := dzero_any B neg2 A2 n2 c2 ys _ hy1
  rw [decide_eq_false hz] at hq
  have HQ := Lib.hid hq
  have HZ := Lib.hid hz
  have HE := Lib.hid (iv_tdiv neg neg2 (val xs) (val ys))
  clear hq hz
  go_enter Tryz.func99, Tryz.ntmps99
  go_wp2_with fail
  refine HQ.out.mono ?_
  rintro e w1 ⟨rfl, hb1⟩
  have hx2 := hx1.below hb1 (Nat.le_refl _)
  have hy2 := hy1.below hb1 (Nat.le_refl _)
  replace hb := hb.next hb1
  obtain ⟨a0, a1, b0, b1⟩ := hb.held
  clear hx1 hy1 hb1 HQ
  go_wp2_with fail
  refine (long_any B A A2 n c n2 c2 xs ys _ hx2 hy2 hn hn2 HZ.out).mono ?_
  rintro e w2 ⟨A3, n3, c3, A4, n4, c4, rfl, h3, h4, hb2⟩
  replace hb := hb.next hb2
  have hbd := hb.drew
  have h3d := h3.drew
  have h4d := h4.drew
  have hn3 : n3 ≤ 1099511627776 := by
    have h8 := h3.len
    have h9 := digs_length_mono (Nat.div_le_self (val xs) (val ys))
    have := digs_len_of hx
    omega
  have hn4 : n4 ≤ 1099511627776 := by
    have h8 := h4.len
    have h9 := digs_length_mono (Nat.mod_le (val xs) (val ys))
    have := digs_len_of hx
    omega
  clear a0 a1 b0 b1 hx2 hy2 hb2 h3 h4 hb
  have hB2 : B ≤ w2.drew.heap.size := by have := hbd.size; omega
  go_wp2_with fail
  go_region_held3 (fun w' => Held22 w neg neg2 A A2 n c n2 c2 w')
    (first | with_reducible exact hbd.held | with_reducible exact hb1.held | with_reducible exact hb2.held | with_reducible exact hb2.heldSet _ _ | with_reducible exact hb2.heldSet2 _ _ _ _)
    (first
      | (go_at_call 58; ((with_reducible refine (from_any B _ A3 n3 c3 _ _ hB2 h3d hn3).mono ?_); rw [val_digs, HE.out.1]; rintro e w5 ⟨A5, n5, c5, rfl, h5, hbw5⟩; have hb1 := hbd.next hbw5; have h4e := h4d.below hbw5 (Nat.le_refl _); have hB3 := Nat.le_trans hB2 hbw5.size))
      | (go_at_call 58; ((with_reducible refine (from_any B _ A4 n4 c4 _ _ hB3 h4e hn4).mono ?_); rw [val_digs, HE.out.2]; rintro e w6 ⟨A6, n6, c6, rfl, h6, hbw6⟩; have h5e := h5.below hbw6 (Nat.le_refl _); have hb2 := hb1.next hbw6; have hr0 := hb2.r0; have hr1 := hb2.r1; have hs0 := hb2.s0; have hs1 := hb2.s1; have hf0 := hb2.fr0; have hf1 := hb2.fr1; have hg0 := hb2.fs0; have hg1 := hb2.fs1)))
  have HF := Lib.hid (fun u v u' v' => hb2.done hB h5e h6 u v u' v')
  clear hb1 hb2 hbd hbw5 hbw6 h3d h4d h4e h5 h6 h5e
  generalize (iv neg (val xs)).tdiv (iv neg2 (val ys)) = q at *
  generalize (iv neg (val xs)).tmod (iv neg2 (val ys)) = r at *
  go_wp2
  exact bodyPost_ret (v := .tuple #[.agg #[.bool (decide (q < 0)), .slice A5 n5 c5], .agg #[.bool (decide (r < 0)), .slice A6 n6 c6], .int .i64 0]) (by simp [results, Tryz.results99, go_sem, hr0, hr1, hs0, hs1]) rfl (HF.out _ _ _ _)

/-- An exact quotient, or 0 and ErrInexact. -/
noncomputable def exZ (a b : Int) : Int := if b ∣ a then a.tdiv b else 0
noncomputable def exK (a b : Int) : Int := if b ∣ a then 0 else 3
def ExactP (B : Nat) (z k : Int) (w : World) (e : Ending) (w' : World) : Prop :=
  ∃ A n c, e = .returned (.tuple #[.agg #[.bool (decide (z < 0)), .slice A n c], .int .i64 k]) ∧ Dig B w' A n c (digs z.natAbs) ∧ Below w.heap.size w w'
theorem ExactP.of {B : Nat} {z k z' k' : Int} {w : World} {e : Ending} {w' : World} (h : ExactP B z k w e w') (hz : z' = z) (hk : k' = k) : ExactP B z' k' w e w' := by
  subst hz hk; exact h
theorem Box3.done2 {w wr : World} {neg neg2 : Bool} {A A2 : Option Addr} {n c n2 c2 : Nat} {B : Nat} {A' : Option Addr} {n' c' : Nat} {z : Int} (h : Box3 w neg neg2 A A2 n c n2 c2 wr) (hB : B ≤ w.heap.size) (hd : Dig B wr A' n' c' (digs z.natAbs)) (k : Int) :
    ExactP B z k w (.returned (.tuple #[.agg #[.bool (decide (z < 0)), .slice A' n' c'], .int .i64 k])) ((wr.setCell ⟨w.heap.size + 1 + 1, 0, none⟩ (.bool (decide (z < 0)))).setCell ⟨w.heap.size + 1 + 1, 1, none⟩ (.slice A' n' c')) :=
  ⟨A', n', c', rfl, hd.result (by omega) h.ty _ _, (h.below.setCell (by show w.heap.size ≤ w.heap.size + 1 + 1; omega) _).setCell (by show w.heap.size ≤ w.heap.size + 1 + 1; omega) _⟩

set_option maxRecDepth 100000 in
set_option maxHeartbeats 2000000 in
theorem dexact_any (B : Nat) (neg neg2 : Bool) (A A2 : Option Addr) (n c n2 c2 : Nat) (xs ys : List Nat) (w : World) (hB : B ≤ w.heap.size) (hx : Dig B w A n c xs) (hy : Dig B w A2 n2 c2 ys) (hn : n ≤ 536870912) (hn2 : n2 ≤ 536870912) (hz : val ys ≠ 0) :
    Calls Tryz.prog 71 #[.agg #[.bool neg, .slice A n c], .agg #[.bool neg2, .slice A2 n2 c2]] w (ExactP B (exZ (iv neg (val xs)) (iv neg2 (val ys))) (exK (iv neg (val xs)) (iv neg2 (val ys))) w) := by
  have hb := Box3.start w neg neg2 A A2 n c n2 c2
  have hx1 := hx.below hb.below (Nat.le_refl _)
  have hy1 := hy.below hb.below (Nat.le_refl _)
  have HQ := Lib.hid (quo_any B neg neg2 A A2 n c n2 c2 xs ys _ (by have := hb.below.size; omega) hx1 hy1 hn hn2 hz)
  clear hx1 hy1 hz
  generalize iv neg (val xs) = a at *
  generalize iv neg2 (val ys) = b at *
  go_enter Tryz.func71, Tryz.ntmps71
  go_wp2_with fail
  refine HQ.out.mono ?_
  rintro e w1 ⟨A3, n3, c3, A4, n4, c4, rfl, h3, h4, hb1⟩
  replace hb := hb.next hb1
  have hbb : Below w1.heap.size w1 ((w1.alloc (.cells #[.bool (decide (a.tdiv b < 0)), .slice A3 n3 c3] 53)).alloc (.cells #[.bool (decide (a.tmod b < 0)), .slice A4 n4 c4] 53)) :=
    ((Below.refl _ _).alloc (Nat.le_refl _) _).alloc (by simp) _
  have h4b := h4.below hbb (Nat.le_refl _)
  have HZR := Lib.hid (dzero_any B (decide (a.tmod b < 0)) A4 n4 c4 _ _ h4b)
  have hbn := hb.next hbb
  have HK := Lib.hid (show (val (digs (a.tmod b).natAbs) = 0) ↔ b ∣ a by
    rw [val_digs, Int.natAbs_eq_zero]
    exact ⟨Int.dvd_of_tmod_eq_zero, Int.tmod_eq_zero_of_dvd⟩)
  have h3b := h3.below hbb (Nat.le_refl _)
  clear hbb h4b h3 h4 HQ
  by_cases hd : b ∣ a
  · have e1 : exZ a b = a.tdiv b := if_pos hd
    have e2 : exK a b = 0 := if_pos hd
    rw [decide_eq_true (HK.out.2 hd)] at HZR
    have HE := Lib.hid (And.intro e1 e2)
    clear e1 e2 hd
    generalize a.tdiv b = q at *
    generalize a.tmod b = r at *
    go_wp2_with fail
    refine HZR.out.mono ?_
    rintro e w2 ⟨rfl, hb2⟩
    have hb9 := hbn.next hb2
    have h3c := h3b.below hb2 (Nat.le_refl _)
    have hr0 := hb9.r0; have hr1 := hb9.r1; have hf0 := hb9.fr0; have hf1 := hb9.fr1
    have hc := hb2.cell (p := ⟨w1.heap.size, 0, none⟩) (by simp; omega)
    have hc1 := hb2.cell (p := ⟨w1.heap.size, 1, none⟩) (by simp; omega)
    have HF := Lib.hid ((hb9.done2 hB h3c 0).of HE.out.1 HE.out.2)
    have i0 : w2.cell? ⟨w1.heap.size, 0, none⟩ = some (.bool (decide (q < 0))) := by rw [hc]; go_simp
    have i1 : w2.cell? ⟨w1.heap.size, 1, none⟩ = some (.slice A3 n3 c3) := by rw [hc1]; go_simp
    clear hb9 hbn hb hb1 hb2 h3b h3c HZR HK hc hc1
    go_wp2
    exact bodyPost_ret (v := .tuple #[.agg #[.bool (decide (q < 0)), .slice A3 n3 c3], .int .i64 0]) (by simp [results, Tryz.results71, go_sem, hr0, hr1]) rfl HF.out
  · have e1 : exZ a b = 0 := if_neg hd
    have e2 : exK a b = 3 := if_neg hd
    rw [decide_eq_false (fun h => hd (HK.out.1 h))] at HZR
    have HE := Lib.hid (And.intro e1 e2)
    clear e1 e2 hd
    generalize a.tdiv b = q at *
    generalize a.tmod b = r at *
    go_wp2_with fail
    refine HZR.out.mono ?_
    rintro e w2 ⟨rfl, hb2⟩
    have hb9 := hbn.next hb2
    have hr0 := hb9.r0; have hr1 := hb9.r1; have hf0 := hb9.fr0; have hf1 := hb9.fr1
    have hnil : Dig B w2 none 0 0 (digs (0 : Int).natAbs) := by
      have : digs (0 : Int).natAbs = [] := digs_zero
      rw [this]; exact Dig.nil
    have HF := Lib.hid ((hb9.done2 hB hnil 3).of HE.out.1 HE.out.2)
    clear hb9 hbn hb hb1 hb2 h3b HZR HK hnil
    go_wp2
    exact bodyPost_ret (v := .tuple #[.agg #[.bool (decide ((0 : Int) < 0)), .slice none 0 0], .int .i64 3]) (by simp [results, Tryz.results71, go_sem, hr0, hr1]) rfl HF.out
theorem dexactC_any (B : Nat) (a b : Int) (A A2 : Option Addr) (n c n2 c2 : Nat) (w : World) (hB : B ≤ w.heap.size) (hx : Dig B w A n c (digs a.natAbs)) (hy : Dig B w A2 n2 c2 (digs b.natAbs)) (hn : n ≤ 536870912) (hn2 : n2 ≤ 536870912) (hb : b ≠ 0) :
    Calls Tryz.prog 71 #[.agg #[.bool (decide (a < 0)), .slice A n c], .agg #[.bool (decide (b < 0)), .slice A2 n2 c2]] w (ExactP B (exZ a b) (exK a b) w) := by
  have h := dexact_any B (decide (a < 0)) (decide (b < 0)) A A2 n c n2 c2 _ _ w hB hx hy hn hn2 (by rw [val_digs]; omega)
  rw [iv_digs, iv_digs] at h
  exact h
end Go.Proofs.YtnknidfpkmnncaaGreat
/- checkpoly.Exact: what its walk carries. -/
namespace Go.Proofs.YtnknidfpkmnncaaGreat
open Go.RowKit

theorem Row.grownFar {B T : Nat} {w w' : World} {A : Option Addr} {n c z : Nat} {cs : List Value} (h : Row B T w A n c z cs) (hz : 0 < z) {row : Option Nat} (hg : w.grownBy w' row) (hf : ∀ ad, A = some ad → some ad.block ≠ row) : Row B T w' A n c z cs :=
  h.keep (fun ad ha _ hl _ => hg.block ad.block hl (hf ad ha)) hz
theorem PolyC.grownFar {B : Nat} {w w' : World} {A : Option Addr} {n c : Nat} {al : List Tm} (h : PolyC B w A n c al) {base m : Nat} {v : Value} {xs : List Value} (hown : w.ownsRow base 57 6 v m xs) (hg : w.grownBy w' v.ownBlock) (hB : B ≤ base) (hf : ∀ ad, A = some ad → some ad.block ≠ v.ownBlock) : PolyC B w' A n c al := by
  obtain ⟨L, h⟩ := h
  exact ⟨L, h.row.grownFar (by omega) hg hf, h.reps.mono fun t z _ hr => hr.grown hown hg hB (by decide)⟩
theorem TBox.grown {w w' : World} {g : Nat} {b : Bool} {A : Option Addr} {n c : Nat} {e : Ex} (h : TBox w g b A n c e) {row : Option Nat} (hg : w.grownBy w' row) (hf : some g ≠ row) : TBox w' g b A n c e :=
  (hg.block g (heap_lt h) hf).trans h
theorem TBox.below {w w' : World} {g : Nat} {b : Bool} {A : Option Addr} {n c : Nat} {e : Ex} (h : TBox w g b A n c e) (hb : Below w.heap.size w w') : TBox w' g b A n c e := (hb.block g (heap_lt h)).trans h
theorem TBox.coef {w : World} {g : Nat} {b : Bool} {A : Option Addr} {n c : Nat} {e : Ex} (h : TBox w g b A n c e) {b' : Bool} {A' : Option Addr} {n' c' : Nat} :
    TBox ((w.setCell ⟨g, 0, none⟩ (.bool b')).setCell ⟨g, 1, none⟩ (.slice A' n' c')) g b' A' n' c' e := by
  unfold TBox at *
  simp [World.setCell, Array.getElem?_modify, h]
theorem IBox.setFar {B : Nat} {w : World} {g g' : Nat} {z : Int} {T : TypeId} (h : IBox B w g z) (hB : B ≤ g') (ht : Ty w g' T) (hT : 83 ≠ T) (hne : g ≠ g') (i : Nat) (u : Value) : IBox B (w.setCell ⟨g', i, none⟩ u) g z := by
  obtain ⟨A, n, c, h1, h2⟩ := h
  refine ⟨A, n, c, ?_, h2.setCell (p := ⟨g', i, none⟩) hB ht hT u⟩
  rw [Below.heap_setCell _ _ _ _ hne]
  exact h1
/-- The exponents with the first j taken away. -/
def unmix (j : Nat) (e f : Ex) : Ex := (if 0 < j then e.1 - f.1 else e.1, if 1 < j then e.2.1 - f.2.1 else e.2.1, if 2 < j then e.2.2.1 - f.2.2.1 else e.2.2.1, if 3 < j then e.2.2.2 - f.2.2.2 else e.2.2.2)
/-- The boxes of a round: the new term, its coefficient. -/
structure QSt (B : Nat) (W : World) (g gc : Nat) (z : Int) (e : Ex) (wr : World) : Prop where
  box : TBox wr g false none 0 0 e
  ib : IBox B wr gc z
  below : Below W.heap.size W wr
theorem QSt.set {B : Nat} {W : World} {g gc : Nat} {z : Int} {e e' : Ex} {wr : World} (h : QSt B W g gc z e wr) (hB : B ≤ g) (hW : W.heap.size ≤ g) (hne : gc ≠ g) {i : Nat} {v : Value} (hb : TBox (wr.setCell ⟨g, i, none⟩ v) g false none 0 0 e') : QSt B W g gc z e' (wr.setCell ⟨g, i, none⟩ v) :=
  ⟨hb, h.ib.setFar hB h.box.ty (by decide) hne i v, h.below.setCell hW v⟩
/-- What a division of coefficients returns in a round, before or behind the box of the quotient. -/
def DvA (B : Nat) (W : World) (z k : Int) (e : Ending) (w3 : World) : Prop :=
  ∃ A n c, e = .returned (.tuple #[.agg #[.bool (decide (z < 0)), .slice A n c], .int .i64 k]) ∧ Dig B w3 A n c (digs z.natAbs) ∧ Below W.heap.size W w3
abbrev Zero2 (w' : World) (H : Nat) : Prop :=
  w'.cell? ⟨H, 0, none⟩ = some (.bool false) ∧ w'.cell? ⟨H, 1, none⟩ = some (.slice none 0 0) ∧ w'.frozen? ⟨H, 0, none⟩ = false ∧ w'.frozen? ⟨H, 1, none⟩ = false
def DvB (B : Nat) (W : World) (z k : Int) (e : Ending) (w3 : World) : Prop :=
  ∃ A n c, e = .returned (.tuple #[.agg #[.bool (decide (z < 0)), .slice A n c], .int .i64 k]) ∧ Dig B w3 A n c (digs z.natAbs) ∧ Below W.heap.size W w3 ∧ IBox B w3 W.heap.size 0 ∧ Zero2 w3 W.heap.size
theorem IBox.zero {B : Nat} (W : World) : IBox B (W.alloc (.cells #[.bool false, .slice none 0 0] 53)) W.heap.size 0 :=
  ⟨none, 0, 0, heap_alloc_new W _, by rw [show (0 : Int).natAbs = 0 from rfl, digs_zero]; exact Dig.nil⟩
theorem zero2_box (W : World) {w3 : World} (h : Below (W.alloc (.cells #[.bool false, .slice none 0 0] 53)).heap.size (W.alloc (.cells #[.bool false, .slice none 0 0] 53)) w3) : Zero2 w3 W.heap.size := by
  have hh : w3.heap[W.heap.size]? = some (.cells #[.bool false, .slice none 0 0] 53 (0, 0)) := (h.block _ (by simp)).trans (heap_alloc_new W _)
  refine ⟨?_, ?_, ?_, ?_⟩
  · rw [cell_of_row w3 _ 0 _ _ _ hh]; rfl
  · rw [cell_of_row w3 _ 1 _ _ _ hh]; rfl
  · simp [World.frozen?, hh]
  · simp [World.frozen?, hh]
def slN : Value → Nat
  | .slice _ n _ => n
  | _ => 0
/-- What Exact returns. -/
def PExP (B : Nat) (r : Option (List Tm)) (w : World) (e : Ending) (w' : World) : Prop :=
  (∃ h A n c, r = some h ∧ e = .returned (.tuple #[.slice A n c, .bool true]) ∧ PolyC B w' A n c (nf h) ∧ Below w.heap.size w w') ∨ (r = none ∧ e = .returned (.tuple #[.slice none 0 0, .bool false]) ∧ Below w.heap.size w w')

theorem exactp_zero (B : Nat) (A A2 : Option Addr) (n c n2 c2 : Nat) (al bl : List Tm) (w : World) (hB : B ≤ w.heap.size) (h : PolyW B w A n c al) (h2 : PolyW B w A2 n2 c2 bl) (hn : n < sortLim) (hn2 : n2 < sortLim) (hl : l1 al < big) (hl2 : l1 bl < big) (hz : nf bl = []) :
    Calls Tryz.prog 55 #[.slice A n c, .slice A2 n2 c2] w (PExP B none w) := by
  go_enter Tryz.func55, Tryz.ntmps55
  go_wp2_with fail
  refine (normalp_any B A n c al _ hB h hn hl).mono ?_
  rintro e w1 ⟨A1, n1, c1, rfl, h1, hb1⟩
  go_wp2_with fail
  refine (normalp_any B A2 n2 c2 bl _ (Nat.le_trans hB hb1.size) (h2.below hb1 (Nat.le_refl _)) hn2 hl2).mono ?_
  rintro e w3 ⟨A3, n3, c3, rfl, h3, hb3⟩
  obtain rfl : n3 = 0 := by have h4 := h3.len; rw [hz] at h4; exact h4.symm
  have HB := Lib.hid (hb1.trans (hb3.mono hb1.size))
  clear h1 h3 hb1 hb3 h h2 hz
  go_wp2
  go_ret2
  exact .inr ⟨rfl, rfl, HB.out⟩
theorem PolyC.single {B : Nat} {w : World} {A : Option Addr} {n c : Nat} {z : Int} (h : Dig B w A n c (digs z.natAbs)) (e : Ex) :
    PolyC B (w.alloc (.cells #[.bool (decide (z < 0)), .slice A n c, .int .i64 e.1, .int .i64 e.2.1, .int .i64 e.2.2.1, .int .i64 e.2.2.2] 57)) (some ⟨w.heap.size, 0, none⟩) 1 1 [(z, e)] := by
  have h1 := Row.new B 57 w 1 6 #[.bool (decide (z < 0)), .slice A n c, .int .i64 e.1, .int .i64 e.2.1, .int .i64 e.2.2.1, .int .i64 e.2.2.2] rfl (by omega)
  exact ⟨[⟨decide (z < 0), A, n, c, e⟩], h1, Reps.one rfl ⟨rfl, h.below ((Below.refl _ _).alloc (Nat.le_refl _) _) (Nat.le_refl _)⟩⟩
/-- What a round's numbers are good for. -/
theorem exBd_facts {p t : Tm} {rest d' : List Tm} {z : Int} {qe : Ex} (h : ExBd (p :: rest) (t :: d')) (hz : (z, qe) = exQ p t) (hp : p.1 ≠ 0) :
    l1 [(z, qe)] < big ∧ l1 (t :: d') < big ∧ l1 (p :: rest) < big ∧ l1 [(z, qe)] * l1 (t :: d') < big ∧ l1 (p :: rest) + l1 (mulL [(z, qe)] (t :: d')) < big ∧ (mulL [(z, qe)] (t :: d')).length ≤ (t :: d').length ∧ l1 (mulL [(z, qe)] (t :: d')) < big := by
  have h1 := h.l1
  have h2 := mid_le_big
  have h3 : l1 [(z, qe)] ≤ l1 (p :: rest) := by
    rw [hz, l1_cons, l1_nil, l1_cons]
    show (p.1.tdiv t.1).natAbs + 0 ≤ _
    rw [Int.natAbs_tdiv, Nat.add_zero]
    exact Nat.le_trans (Nat.div_le_self _ _) (Nat.le_add_right _ _)
  have h4 : l1 (mulL [(z, qe)] (t :: d')) ≤ l1 [(z, qe)] * l1 (t :: d') := l1_nf_mul _ _
  have h5 : l1 [(z, qe)] * l1 (t :: d') ≤ l1 (p :: rest) * l1 (t :: d') := Nat.mul_le_mul_right _ h3
  rw [Nat.mul_add] at h1
  have h6 : (mulL [(z, qe)] (t :: d')).length ≤ 1 * (t :: d').length := length_nf_mul [(z, qe)] (t :: d')
  have h7 : l1 (t :: d') < big := by
    have h8 : 0 < l1 (p :: rest) := by rw [l1_cons]; omega
    have h9 : l1 (t :: d') ≤ l1 (p :: rest) * l1 (t :: d') := Nat.le_mul_of_pos_left _ h8
    omega
  refine ⟨by omega, h7, by omega, by omega, by omega, by omega, by omega⟩
end Go.Proofs.YtnknidfpkmnncaaGreat
/- checkpoly.Exact. -/
namespace Go.Proofs.YtnknidfpkmnncaaGreat
open Go.RowKit

set_option maxRecDepth 100000 in
set_option maxHeartbeats 8000000 in
theorem exactp_any (B : Nat) (A A2 : Option Addr) (n c n2 c2 : Nat) (al bl : List Tm) (w : World) (hB : B ≤ w.heap.size) (h : PolyW B w A n c al) (h2 : PolyW B w A2 n2 c2 bl) (hn : n < sortLim) (hn2 : n2 < sortLim) (hl : l1 al < big) (hl2 : l1 bl < big)
    (t : Tm) (d' : List Tm) (hd : nf bl = t :: d') (N : Nat) (r : Option (List Tm)) (hx : ExOk (t :: d') t N (nf al) [] r) (hN : N ≤ 1073741823) :
    Calls Tryz.prog 55 #[.slice A n c, .slice A2 n2 c2] w (PExP B r w) := by
  obtain ⟨i0, hi0, hz0, hz1, hz2⟩ := info_parts terminfo
  have HD := Lib.hid hd
  have HCD := Lib.hid (show Canon (t :: d') by rw [← hd]; exact nf_canon bl)
  have HX := Lib.hid hx
  have HCA := Lib.hid (nf_canon al)
  have HN1 := Lib.hid (normalp_new B A n c al w hB h hn hl)
  have HN2 := Lib.hid (fun W (hb : Below w.heap.size w W) => normalp_new B A2 n2 c2 bl W (Nat.le_trans hB hb.size) (h2.below hb (Nat.le_refl _)) hn2 hl2)
  clear hd hx h h2 hl hl2
  rw [HD.out] at HN2
  generalize nf al = a at *
  go_enter Tryz.func55, Tryz.ntmps55
  go_wp2_with fail
  refine HN1.out.mono ?_
  rintro e w1 ⟨A1, n1, c1, rfl, h1, hb1, hnew1⟩
  go_wp2_with fail
  refine (HN2.out _ hb1).mono ?_
  rintro e w2 ⟨A3, n3, c3, rfl, h3, hb2, hnew3⟩
  have h1b := h1.below hb2 (Nat.le_refl _)
  have HB2 := Lib.hid (hb1.trans (hb2.mono hb1.size))
  have hn3 : 0 < n3 := by have h4 := h3.len; simp at h4; omega
  have hn3z : ((n3 : Int) == 0) = false := by rw [beq_eq_false_iff_ne]; omega
  obtain ⟨b3, off3, rfl, hs3, HT3⟩ := h3.term hn3
  obtain ⟨tv, tp, htp, htve, hcf3, hh2, hh4⟩ := HT3 0 hn3
  obtain rfl : t = tp := by simpa using htp
  rw [Nat.zero_mul, Nat.add_zero] at hh2 hh4
  have HTVE := Lib.hid htve
  have hc3 := h3.cap
  have HT0 := Lib.hid ((HCD.out).2 t (List.mem_cons_self ..))
  have h1n := h1b.len
  have HNEW1 := Lib.hid (show ∀ ad, A1 = some ad → some ad.block ≠ (Value.slice none 0 0).ownBlock from fun ad _ he => by simp [Value.ownBlock] at he)
  have HB2s := Lib.hid hB
  clear hb1 hb2 HT3 htp htve h1 hnew1 hnew3 HN1 HN2
  have hBw2 : B ≤ w2.heap.size := Nat.le_trans hB HB2.out.size
  go_wp2
  go_loopw [6, 8] (fun rv ov wr => ∃ (M : Nat) (rest out : List Tm) (Ar : Option Addr) (nr cr : Nat) (L : List TV), rv = .slice Ar nr cr ∧ L.length + M = N ∧ PolyC B wr Ar nr cr rest ∧ Hid (∀ ad, Ar = some ad → some ad.block ≠ ov.ownBlock) ∧ M1 B w2 out ov L wr ∧ Hid (Canon rest ∧ ExOk (t :: d') t M rest out r)) (fun _ ov _ => N - slN ov)
  case atStart => exact ⟨N, a, [], A1, n1, c1, [], rfl, by simp, h1b, HNEW1, M1.start B w2, Lib.hid ⟨HCA.out, HX.out⟩⟩
  case round =>
    obtain ⟨W0, rfl⟩ : ∃ y, y = wr := ⟨_, rfl⟩
    clear h1b h1n HNEW1
    obtain ⟨M, rest, out, Ar, nr, cr, L, rfl, hLM, hp, HF, hM, HR⟩ := hrel
    obtain ⟨Ao, co, rfl⟩ := own_slice hM.own
    have hBW : B ≤ W0.heap.size := Nat.le_trans hBw2 hM.below.size
    have hcr := hp.cap
    rcases Nat.eq_zero_or_pos nr with hz | hnr
    · subst hz
      have hr0 : rest = [] := List.eq_nil_of_length_eq_zero hp.len
      subst hr0
      have hre : r = some out ∧ out.length < 1073741824 ∧ l1 out < big := by
        have h8 := HR.out.2
        cases M <;> exact h8
      have hPo : PolyC B W0 Ao L.length co out := ⟨L, Row.of_own hM.own, hM.reps⟩
      have HPo := Lib.hid (hPo.wide hre.2.2)
      have hLn : L.length < sortLim := by have h8 := hPo.len; unfold sortLim; omega
      have HRE := Lib.hid hre
      have HBM := Lib.hid (HB2.out.trans (hM.below.mono HB2.out.size))
      clear hre hPo hp hM HR HF
      go_wp2_with fail
      refine (normalp_any B Ao L.length co out _ hBW HPo.out hLn HRE.out.2.2).mono ?_
      rintro e w9 ⟨A9, n9, c9, rfl, h9, hb9⟩
      go_wp2
      go_ret2
      exact .inl ⟨out, A9, n9, c9, HRE.out.1, rfl, h9, HBM.out.trans (hb9.mono HBM.out.size)⟩
    · obtain ⟨p, rest', rfl⟩ : ∃ p rest', rest = p :: rest' := by
        have h8 := hp.len
        match rest, h8 with
        | [], h8 => simp at h8; omega
        | p :: rest', _ => exact ⟨p, rest', rfl⟩
      obtain ⟨M, rfl⟩ : ∃ M', M = M' + 1 := by
        match M, HR.out.2 with
        | 0, h8 => exact h8.elim
        | M' + 1, _ => exact ⟨M', rfl⟩
      have HE := Lib.hid (show ExBd (p :: rest') (t :: d') ∧ out.length < 1073741823 ∧ (if okQ p t then ExOk (t :: d') t M (exNext (p :: rest') (t :: d') (exQ p t)) (out ++ [exQ p t]) r else r = none) from HR.out.2)
      obtain ⟨b, off, rfl, hs1, HT1⟩ := hp.term hnr
      obtain ⟨sv, sp, hsp, hsve, hcf, hg2, hg4⟩ := HT1 0 hnr
      obtain rfl : p = sp := by simpa using hsp
      rw [Nat.zero_mul, Nat.add_zero] at hg2 hg4
      have HSVE := Lib.hid hsve
      have HCR := Lib.hid HR.out.1
      clear HT1 hsp hsve HR
      have hb := hM.below
      have hh2' := held2_below hh2 hb hs3
      have hh4' := held4_below hh4 hb hs3
      have hcf3' := hcf3.below hb (Nat.le_refl _)
      have hnr0 : decide ((0 : Int) < (nr : Int)) = true := by rw [decide_eq_true_eq]; omega
      have hnr1 : (0 : Int) < (nr : Int) := by omega
      have hn31 : (0 : Int) < (n3 : Int) := by omega
      obtain ⟨c0, c1⟩ := hg2
      obtain ⟨e2, e3, e4, e5⟩ := hg4
      have hbx : Below W0.heap.size W0 (W0.alloc (.cells #[.bool false, .slice none 0 0, .int .i64 sv.e.1, .int .i64 sv.e.2.1, .int .i64 sv.e.2.2.1, .int .i64 sv.e.2.2.2] 57)) := (Below.refl _ _).alloc (Nat.le_refl _) _
      have hTB : TBox (W0.alloc (.cells #[.bool false, .slice none 0 0, .int .i64 sv.e.1, .int .i64 sv.e.2.1, .int .i64 sv.e.2.2.1, .int .i64 sv.e.2.2.2] 57)) W0.heap.size false none 0 0 sv.e := heap_alloc_new W0 _
      have hx2 := held2_below (show Held2 W0 b off sv from ⟨c0, c1⟩) hbx hs1
      have hs3w : b3 < W0.heap.size := by have := hb.size; omega
      have hy2 := held2_below hh2' hbx hs3w
      have hdx := hcf.2.below hbx (Nat.le_refl _)
      have hdy := hcf3'.2.below hbx (Nat.le_refl _)
      go_upto_region 7 with (fail)
      obtain ⟨W, hW⟩ : ∃ W, W = (W0.alloc (.cells #[.bool false, .slice none 0 0, .int .i64 sv.e.1, .int .i64 sv.e.2.1, .int .i64 sv.e.2.2.1, .int .i64 sv.e.2.2.2] 57)) := ⟨_, rfl⟩
      obtain ⟨g, hg⟩ : ∃ g, g = W0.heap.size := ⟨_, rfl⟩
      have hgW : g < W.heap.size := by rw [hW, hg]; simp
      rw [← hW] at hx2 hy2 hdx hdy hTB hbx
      rw [← hg] at hTB
      rw [← hW, ← hg]
      have hs1W : b < W.heap.size := by have h8 := hbx.size; omega
      have hs3W : b3 < W.heap.size := by have h8 := hbx.size; omega
      have HBX := Lib.hid (And.intro hbx hg)
      have HM0 := Lib.hid hM
      have HP0 := Lib.hid hp
      have HTB := Lib.hid hTB
      obtain ⟨z, hz⟩ : ∃ z, z = exZ p.1 t.1 := ⟨_, rfl⟩
      obtain ⟨k, hk⟩ : ∃ k, k = exK p.1 t.1 := ⟨_, rfl⟩
      have HZ := Lib.hid (And.intro hz hk)
      have hBW' : B ≤ W.heap.size := Nat.le_trans hBW hbx.size
      have hsn : sv.n ≤ 536870912 := by
        rw [← hdx.len]
        have h8 := HE.out.1.l1
        have h9 : p.1.natAbs ≤ l1 (p :: rest') * (2 + l1 (t :: d')) := by
          refine Nat.le_trans ?_ (Nat.le_mul_of_pos_right _ (by omega))
          rw [l1_cons]; omega
        unfold mid at h8
        exact digs_length_le (Nat.lt_of_le_of_lt h9 h8)
      have htn : tv.n ≤ 536870912 := by
        rw [← hdy.len]
        have h8 := HE.out.1.l1
        have h9 : t.1.natAbs ≤ l1 (p :: rest') * (2 + l1 (t :: d')) := by
          refine Nat.le_trans ?_ (Nat.le_mul_of_pos_left _ ?_)
          · rw [l1_cons]; omega
          · have h7 := (HCR.out.2 p (List.mem_cons_self ..)).1
            rw [l1_cons]
            omega
        unfold mid at h8
        exact digs_length_le (Nat.lt_of_le_of_lt h9 h8)
      have HALL := Lib.hid (show ∀ W', Below W.heap.size W W' → Calls Tryz.prog 71 #[.agg #[.bool sv.neg, .slice sv.A sv.n sv.c], .agg #[.bool tv.neg, .slice tv.A tv.n tv.c]] W' (ExactP B z k W') from fun W' hb' => by
        have h9 := dexactC_any B p.1 t.1 sv.A tv.A sv.n sv.c tv.n tv.c W' (Nat.le_trans hBW' hb'.size) (hdx.below hb' (Nat.le_refl _)) (hdy.below hb' (Nat.le_refl _)) hsn htn HT0.out.1
        rw [← hcf.1, ← hcf3.1, ← hz, ← hk] at h9
        exact h9)
      have HCa := Lib.hid (show Calls Tryz.prog 71 #[.agg #[.bool sv.neg, .slice sv.A sv.n sv.c], .agg #[.bool tv.neg, .slice tv.A tv.n tv.c]] W.drew (DvA B W z k) from (HALL.out _ (Below.drew (Below.refl _ _))).mono fun e3 w3 hp => by
        obtain ⟨A3, n3, c3, he, h3, hb3⟩ := hp
        exact ⟨A3, n3, c3, he, h3, (Below.drew (Below.refl W.heap.size W)).trans (hb3.mono (Nat.le_refl _))⟩)
      have HCb := Lib.hid (show Calls Tryz.prog 71 #[.agg #[.bool sv.neg, .slice sv.A sv.n sv.c], .agg #[.bool tv.neg, .slice tv.A tv.n tv.c]] (W.alloc (.cells #[.bool false, .slice none 0 0] 53)).drew (DvB B W z k) from (HALL.out _ (Below.drew (Below.alloc (Below.refl _ _) (Nat.le_refl _) _))).mono fun e3 w3 hp => by
        obtain ⟨A3, n3, c3, he, h3, hb3⟩ := hp
        have hb5 : Below (W.alloc (.cells #[.bool false, .slice none 0 0] 53)).heap.size (W.alloc (.cells #[.bool false, .slice none 0 0] 53)) w3 := (Below.drew (Below.refl _ _)).trans hb3
        exact ⟨A3, n3, c3, he, h3, (Below.alloc (Below.refl W.heap.size W) (Nat.le_refl _) _).trans (hb5.mono (by simp)), (IBox.zero W).below hb5, zero2_box W hb5⟩)
      have HA0 := Lib.hid (show ∀ o, Below W.heap.size W (W.alloc o).drew from fun o => Below.drew (Below.alloc (Below.refl _ _) (Nat.le_refl _) _))
      have HSC := Lib.hid (show ∀ w3 i v, Below W.heap.size W w3 → Below W.heap.size W (w3.setCell ⟨W.heap.size, i, none⟩ v) from fun w3 i v hb => hb.setCell (Nat.le_refl _) v)
      have HSS := Lib.hid (show ∀ w3, Below W.heap.size W w3 → Held2 w3 b off sv ∧ Held2 w3 b3 off3 tv from fun w3 hb => ⟨held2_below hx2 hb hs1W, held2_below hy2 hb hs3W⟩)
      clear HALL hx2 hy2 hdx hdy hh2 hh4 hh2' hbx hTB hM hp hz hk c0 c1 e2 e3 e4 e5 hcf hcf3' hW hg hb
      have hbq := Below.refl W.heap.size W
      go_cut [10, 11] (fun v ev wx => ev = .int .i64 k ∧ ∃ gc, v = .pointer (some ⟨gc, 0, none⟩) ∧ IBox B wx gc z ∧ Below W.heap.size W wx ∧ W.heap.size ≤ gc)
      case first =>
        go_region_held3 (fun w' => Held2 w' b off sv ∧ Held2 w' b3 off3 tv) (first | (with_reducible refine HSS.out _ (HSC.out _ _ _ ?_); with_reducible exact (HSC.out _ _ _ hbq)) | with_reducible exact HSS.out _ (Below.alloc hbq hbq.size _) | with_reducible exact HSS.out _ (HA0.out _) | with_reducible exact HSS.out _ hbq | exact HSS.out _ (Below.drew (Below.refl _ _)))
          (first
            | (go_at_call 71; (with_reducible refine HCa.out.mono ?_); rintro e3 w3 ⟨A3, n3, c3, rfl, h3, hbq⟩)
            | (go_at_call 71; (with_reducible refine HCb.out.mono ?_); rintro e3 w3 ⟨A3, n3, c3, rfl, h3, hbq, hIB, z0, z1, y0, y1⟩))
        · go_wp2
          go_meet
          exact ⟨rfl, w3.heap.size, rfl, IBox.new h3, hbq.alloc hbq.size _, hbq.size⟩
        · go_wp2
          go_meet
          exact ⟨rfl, W.heap.size, rfl, hIB.store (by omega) h3, (hbq.setCell (Nat.le_refl _) _).setCell (Nat.le_refl _) _, Nat.le_refl _⟩
      case rest =>
        obtain ⟨rfl, gc, rfl, hIB, hbW, hWg⟩ := hcut
        have hb0c := HBX.out.1.trans (hbW.mono HBX.out.1.size)
        obtain ⟨d2, d3, d4, d5⟩ := held4_below hh4' hb0c hs3w
        have hgW0 : W0.heap.size ≤ g := by rw [HBX.out.2]; exact Nat.le_refl _
        have hBg : B ≤ g := Nat.le_trans hBW hgW0
        have hgc : gc ≠ g := by omega
        have HBS := Lib.hid (show ∀ j, j < 4 → 0 ≤ ex sv.e j ∧ ex sv.e j ≤ 1073741824 from fun j hj => by
          rw [HSVE.out]
          have h8 := HE.out.1.e p (List.mem_cons_self ..) j hj
          have h9 := validE_iff.1 (HCR.out.2 p (List.mem_cons_self ..)).2 j hj
          omega)
        have HBT := Lib.hid (show ∀ j, j < 4 → 0 ≤ ex tv.e j ∧ ex tv.e j ≤ 1073741824 from fun j hj => by
          rw [HTVE.out]
          have h8 := HE.out.1.de t (List.mem_cons_self ..) j hj
          have h9 := validE_iff.1 HT0.out.2 j hj
          omega)
        have hix0 := ind0 tv.e.1 tv.e.2.1 tv.e.2.2.1 tv.e.2.2.2
        have hix1 := ind1 tv.e.1 tv.e.2.1 tv.e.2.2.1 tv.e.2.2.2
        have hix2 := ind2 tv.e.1 tv.e.2.1 tv.e.2.2.1 tv.e.2.2.2
        have hix3 := ind3 tv.e.1 tv.e.2.1 tv.e.2.2.1 tv.e.2.2.2
        have hQ0 : QSt B W0 g gc z (unmix 0 sv.e tv.e) wc := ⟨HTB.out.below hbW, hIB, hb0c⟩
        clear HCa HCb HA0 HSC HSS hbq hIB hb0c hbW
        go_wp2
        clear d2 d3 d4 d5
        go_loopw [45] (fun i wr => ∃ j : Nat, j ≤ 4 ∧ i = .int .i64 j ∧ QSt B W0 g gc z (unmix j sv.e tv.e) wr) (fun i _ => 4 - (intOf i).toNat)
        case atStart => exact ⟨0, by omega, rfl, hQ0⟩
        case round =>
          obtain ⟨j, hj, rfl, hQJ⟩ := hrel
          have hbx6 := hQJ.box.six
          have hfz := hQJ.box.frozen
          obtain ⟨r0, r1, r2, r3, r4, r5⟩ := hbx6
          rcases j with _ | _ | _ | _ | j
          · have hst := hQJ.set hBg hgW0 hgc (hQJ.box.set0 (sv.e.1 - tv.e.1))
            have hb1 := HBS.out 0 (by omega)
            have hb2 := HBT.out 0 (by omega)
            have hwr : wrap64 (sv.e.1 - tv.e.1) = sv.e.1 - tv.e.1 := by simp only [ex] at hb1 hb2; unfold wrap64; omega
            have HST := Lib.hid hst
            clear hst hb1 hb2 hQ0
            replace r2 : wr.cell? ⟨g, 2, none⟩ = some (.int .i64 sv.e.1) := r2
            go_wp2
            exact ⟨⟨1, by omega, rfl, HST.out⟩, by simp [intOf]⟩
          · have hst := hQJ.set hBg hgW0 hgc (hQJ.box.set1 (sv.e.2.1 - tv.e.2.1))
            have hb1 := HBS.out 1 (by omega)
            have hb2 := HBT.out 1 (by omega)
            have hwr : wrap64 (sv.e.2.1 - tv.e.2.1) = sv.e.2.1 - tv.e.2.1 := by simp only [ex] at hb1 hb2; unfold wrap64; omega
            have HST := Lib.hid hst
            clear hst hb1 hb2 hQ0
            replace r3 : wr.cell? ⟨g, 3, none⟩ = some (.int .i64 sv.e.2.1) := r3
            go_wp2
            exact ⟨⟨2, by omega, rfl, HST.out⟩, by simp [intOf]⟩
          · have hst := hQJ.set hBg hgW0 hgc (hQJ.box.set2 (sv.e.2.2.1 - tv.e.2.2.1))
            have hb1 := HBS.out 2 (by omega)
            have hb2 := HBT.out 2 (by omega)
            have hwr : wrap64 (sv.e.2.2.1 - tv.e.2.2.1) = sv.e.2.2.1 - tv.e.2.2.1 := by simp only [ex] at hb1 hb2; unfold wrap64; omega
            have HST := Lib.hid hst
            clear hst hb1 hb2 hQ0
            replace r4 : wr.cell? ⟨g, 4, none⟩ = some (.int .i64 sv.e.2.2.1) := r4
            go_wp2
            exact ⟨⟨3, by omega, rfl, HST.out⟩, by simp [intOf]⟩
          · have hst := hQJ.set hBg hgW0 hgc (hQJ.box.set3 (sv.e.2.2.2 - tv.e.2.2.2))
            have hb1 := HBS.out 3 (by omega)
            have hb2 := HBT.out 3 (by omega)
            have hwr : wrap64 (sv.e.2.2.2 - tv.e.2.2.2) = sv.e.2.2.2 - tv.e.2.2.2 := by simp only [ex] at hb1 hb2; unfold wrap64; omega
            have HST := Lib.hid hst
            clear hst hb1 hb2 hQ0
            replace r5 : wr.cell? ⟨g, 5, none⟩ = some (.int .i64 sv.e.2.2.2) := r5
            go_wp2
            exact ⟨⟨4, by omega, rfl, HST.out⟩, by simp [intOf]⟩
          · obtain rfl : j = 0 := by omega
            obtain ⟨qe, hqe⟩ : ∃ qe, qe = subE sv.e tv.e := ⟨_, rfl⟩
            have hQ4 : QSt B W0 g gc z qe wr := by rw [hqe]; exact hQJ
            have HQE := Lib.hid (show qe = subE p.2 t.2 by rw [hqe, HSVE.out, HTVE.out])
            clear hQJ hQ0 r0 r1 r2 r3 r4 r5 hfz hix0 hix1 hix2 hix3 hqe
            obtain ⟨r0, r1, r2, r3, r4, r5⟩ := hQ4.box.six
            have hbF := HB2.out.trans ((HM0.out.below.trans (hQ4.below.mono HM0.out.below.size)).mono HB2.out.size)
            by_cases hdv : t.1 ∣ p.1
            · have hk0 : k = 0 := HZ.out.2.trans (if_pos hdv)
              have hz0' : z = p.1.tdiv t.1 := HZ.out.1.trans (if_pos hdv)
              have HZQ := Lib.hid (show (z, qe) = exQ p t by rw [hz0', HQE.out]; rfl)
              clear HZ
              subst hk0
              clear hz0'
              have HVA := Lib.hid (fun W => valid_any qe W)
              by_cases hv : validE qe = true
              · rw [hv] at HVA
                have HOK := Lib.hid (show okQ p t = true by unfold okQ; rw [Bool.and_eq_true, decide_eq_true_eq]; exact ⟨hdv, by rw [← HQE.out]; exact hv⟩)
                clear hv hdv
                go_wp2_with fail
                refine (HVA.out _).mono ?_
                rintro e w6 ⟨rfl, hb6⟩
                have hQ6 : QSt B W0 g gc z qe w6 := ⟨hQ4.box.below hb6, hQ4.ib.below hb6, hQ4.below.trans (hb6.mono hQ4.below.size)⟩
                clear hQ4 r0 r1 r2 r3 r4 r5 hb6 hbF
                obtain ⟨A7, n7, c7, k0, k1, _, _, hd7⟩ := hQ6.ib.cells
                have hfz := hQ6.box.frozen
                have hT7 := hQ6.box.coef (b' := decide (z < 0)) (A' := A7) (n' := n7) (c' := c7)
                have hd7b : Dig B ((w6.setCell ⟨g, 0, none⟩ (.bool (decide (z < 0)))).setCell ⟨g, 1, none⟩ (.slice A7 n7 c7)) A7 n7 c7 (digs z.natAbs) := (hd7.setCell (p := ⟨g, 0, none⟩) hBg hQ6.box.ty (by decide) _).setCell (p := ⟨g, 1, none⟩) hBg (hQ6.box.ty.setCell _ _) (by decide) _
                have hb7 : Below W0.heap.size W0 ((w6.setCell ⟨g, 0, none⟩ (.bool (decide (z < 0)))).setCell ⟨g, 1, none⟩ (.slice A7 n7 c7)) := (hQ6.below.setCell hgW0 _).setCell hgW0 _
                obtain ⟨W7, hW7⟩ : ∃ W7, W7 = ((w6.setCell ⟨g, 0, none⟩ (.bool (decide (z < 0)))).setCell ⟨g, 1, none⟩ (.slice A7 n7 c7)) := ⟨_, rfl⟩
                rw [← hW7] at hT7 hd7b hb7
                obtain ⟨s0, s1, _, _, _, _⟩ := hQ6.box.six
                clear hQ6 hd7
                go_upto_region 16 with (fail)
                rw [← hW7]
                clear hW7 k0 k1 hfz s0 s1
                obtain ⟨r0, r1, r2, r3, r4, r5⟩ := hT7.six
                have hal : Below W7.heap.size W7 (W7.alloc (.cells #[.bool (decide (z < 0)), .slice A7 n7 c7, .int .i64 qe.1, .int .i64 qe.2.1, .int .i64 qe.2.2.1, .int .i64 qe.2.2.2] 57)) := (Below.refl _ _).alloc (Nat.le_refl _) _
                have hM8 := (HM0.out.later hb7).later hal
                have hT8 := hT7.below hal
                have hd8 := hd7b.below hal (Nat.le_refl _)
                have hp8 := (HP0.out.below hb7 (Nat.le_refl _)).below hal (Nat.le_refl _)
                have h38 := h3.below hM8.below (Nat.le_refl _)
                have HOB := Lib.hid (And.intro (show ∀ x, (Value.slice Ao L.length co).ownBlock = some x → w2.heap.size ≤ x from fun x hx => own_base HM0.out.own x hx) (show ∀ x, (Value.slice Ao L.length co).ownBlock = some x → x < W0.heap.size from fun x hx => own_lt HM0.out.own x hx))
                have hw27 : w2.heap.size ≤ W7.heap.size := Nat.le_trans HM0.out.below.size hb7.size
                have hLn : L.length ≤ 1073741823 := by omega
                have HB7 := Lib.hid hb7
                clear hd7b hT7
                go_upto_region 17 with (at_builtin; refine wpList_append_lies _ rfl _ _ _ rfl w2.heap.size 57 i0 _ 6 64 Tryz.underlying27 hi0 hz0 hz1 hz2 rfl (by omega) (.slice Ao L.length co) L.length (flat L) rfl hM8.own ⟨W7.heap.size, 0, none⟩ 1 1 (flat [⟨decide (z < 0), A7, n7, c7, qe⟩]) rfl rfl (World.news_of_block (cs := #[.bool (decide (z < 0)), .slice A7 n7 c7, .int .i64 qe.1, .int .i64 qe.2.1, .int .i64 qe.2.2.1, .int .i64 qe.2.2.2]) (t := 57) (fr := (0, 0)) (heap_alloc_new W7 _)) (flat_one _) (by omega) (by simp only [maxLen]; omega) (by omega) (by simp; omega) (W7.heap.size + 1) (by simp) ?_; intro gg cap w8 hown8 hgrow hat hlt8)
                have hM9 := hM8.push (p := (z, qe)) (t := ⟨decide (z < 0), A7, n7, c7, qe⟩) rfl hown8 hgrow ⟨rfl, hd8⟩ (by omega)
                have hT9 := hT8.grown hgrow (fun e => by have h8 := HOB.out.2 g e.symm; have h7 := HBX.out.2; omega)
                have hp9 := hp8.grownFar hM8.own hgrow (by omega) HF.out
                have h39 := h38.grownFar hM8.own hgrow (by omega) (fun ad ha e => by
                  injection ha with ha
                  subst ha
                  have h8 := HOB.out.1 b3 e.symm
                  omega)
                have hd9 : CoefC B w8 ⟨decide (z < 0), A7, n7, c7, qe⟩ z := CoefC.grown (t := ⟨decide (z < 0), A7, n7, c7, qe⟩) ⟨rfl, hd8⟩ hM8.own hgrow (by omega) (by decide)
                have hgl8 : gg < w8.heap.size := own_lt hown8 gg rfl
                clear hM8 hT8 hd8 hp8 h38 hgrow hat hown8 hal r0 r1 r2 r3 r4 r5 HB7 hb7 HOB
                obtain ⟨r0, r1, r2, r3, r4, r5⟩ := hT9.six
                replace r0 : w8.cell? ⟨g, 0, none⟩ = some (.bool (decide (z < 0))) := r0
                replace r1 : w8.cell? ⟨g, 1, none⟩ = some (.slice A7 n7 c7) := r1
                replace r2 : w8.cell? ⟨g, 2, none⟩ = some (.int .i64 qe.1) := r2
                replace r3 : w8.cell? ⟨g, 3, none⟩ = some (.int .i64 qe.2.1) := r3
                replace r4 : w8.cell? ⟨g, 4, none⟩ = some (.int .i64 qe.2.2.1) := r4
                replace r5 : w8.cell? ⟨g, 5, none⟩ = some (.int .i64 qe.2.2.2) := r5
                have hw28 : w2.heap.size ≤ w8.heap.size := hM9.below.size
                have hal9 : Below w8.heap.size w8 (w8.alloc (.cells #[.bool (decide (z < 0)), .slice A7 n7 c7, .int .i64 qe.1, .int .i64 qe.2.1, .int .i64 qe.2.2.1, .int .i64 qe.2.2.2] 57)) := (Below.refl _ _).alloc (Nat.le_refl _) _
                have hone := PolyC.single hd9.2 qe
                obtain ⟨f1, f2, f3, f4, f5, f6, f7⟩ := exBd_facts HE.out.1 HZQ.out (HCR.out.2 p (List.mem_cons_self ..)).1
                have hdl : (t :: d').length = n3 := h3.len
                have hrl : (p :: rest').length = nr := HP0.out.len
                have HLen := Lib.hid (show nr + n3 ≤ 536870912 by have h8 := HE.out.1.len; omega)
                have HMU := Lib.hid (mulp_any B (some ⟨w8.heap.size, 0, none⟩) (some ⟨b3, off3, none⟩) 1 1 n3 c3 [(z, qe)] (t :: d') _ (by simp; omega) (hone.wide f1) ((h39.below hal9 (Nat.le_refl _)).wide f2) (by unfold sortLim; omega) (by unfold sortLim; have := HLen.out; omega) (by unfold sortLim; have := HLen.out; omega) f1 f2 f4 (by
                  intro q hq j hj
                  rw [List.mem_singleton.1 hq]
                  show ex qe j ≤ _
                  have h8 := HBS.out j hj
                  have h9 := HBT.out j hj
                  rw [HQE.out, ex_subE, ← HSVE.out, ← HTVE.out]
                  omega) (HE.out.1.de.ebd (Nat.le_refl _)))
                have hp9' := hp9.below hal9 (Nat.le_refl _)
                have hM9' := hM9.later hal9
                have HF3 := Lib.hid f3
                have HF5 := Lib.hid (And.intro f5 f7)
                have HF6 := Lib.hid (show (mulL [(z, qe)] (t :: d')).length ≤ n3 by rw [← hdl]; exact f6)
                clear f1 f2 f3 f4 f5 f6 f7 hone hp9 hM9 hdl hrl h39 hd9 hT9
                go_wp2_with fail
                refine HMU.out.mono ?_
                rintro e w10 ⟨A10, n10, c10, rfl, h10, hb10⟩
                have hp10 := hp9'.below hb10 (Nat.le_refl _)
                have hn10 : n10 ≤ n3 := by have h8 := h10.len; have h9 := HF6.out; unfold mulL at h9; omega
                have HSU := Lib.hid (subp_new B (some ⟨b, off, none⟩) A10 nr cr n10 c10 (p :: rest') (mulL [(z, qe)] (t :: d')) _ (by have := hal9.size; have := hb10.size; omega) (hp10.wide HF3.out) (PolyC.wide (al := mulL [(z, qe)] (t :: d')) h10 HF5.out.2) (by unfold sortLim; have := HLen.out; omega) HF5.out.1)
                have hM10 := hM9'.later hb10
                have hgl10 : gg < w10.heap.size := by have := hal9.size; have := hb10.size; omega
                clear hp9' hp10 h10 hM9' hal9 hb10 HMU r0 r1 r2 r3 r4 r5
                go_wp2_with fail
                refine HSU.out.mono ?_
                rintro e w11 ⟨A11, n11, c11, rfl, h11, hb11, hnew⟩
                have hM11 := hM10.later hb11
                have HNW := Lib.hid (show ∀ ad, A11 = some ad → some ad.block ≠ (Value.slice (some ⟨gg, 0, none⟩) (L.length + 1) cap).ownBlock from fun ad ha e => by
                  have h8 := hnew ad ha
                  have h9 : ad.block = gg := by simpa [Value.ownBlock] using e
                  omega)
                have HR2 := Lib.hid (show Canon (exNext (p :: rest') (t :: d') (z, qe)) ∧ ExOk (t :: d') t M (exNext (p :: rest') (t :: d') (z, qe)) (out ++ [(z, qe)]) r from ⟨exNext_canon _ _ _, by
                  have h8 := HE.out.2.2
                  rw [if_pos HOK.out, ← HZQ.out] at h8
                  exact h8⟩)
                clear hM10 hb11 hnew HSU
                go_wp2
                go_roundw
                case rel => exact ⟨M, exNext (p :: rest') (t :: d') (z, qe), out ++ [(z, qe)], A11, n11, c11, L ++ [⟨decide (z < 0), A7, n7, c7, qe⟩], rfl, by rw [List.length_append, List.length_singleton]; omega, h11, HNW, hM11, HR2⟩
                case measure => simp [slN]; omega
              · have hv' : validE qe = false := by simpa using hv
                rw [hv'] at HVA
                have hok : okQ p t = false := by unfold okQ; rw [← HQE.out, hv', Bool.and_false]
                have HRN := Lib.hid (show r = none by have h8 := HE.out.2.2; rw [hok] at h8; simpa using h8)
                have HBF := Lib.hid hbF
                clear hv hv' hok hdv hbF
                go_wp2_with fail
                refine (HVA.out _).mono ?_
                rintro e w6 ⟨rfl, hb6⟩
                go_wp2
                go_ret2
                exact .inr ⟨HRN.out, rfl, HBF.out.trans (hb6.mono HBF.out.size)⟩
            · have hk0 : k = 3 := HZ.out.2.trans (if_neg hdv)
              have hok : okQ p t = false := by unfold okQ; rw [decide_eq_false hdv, Bool.false_and]
              have HRN := Lib.hid (show r = none by have h8 := HE.out.2.2; rw [hok] at h8; simpa using h8)
              have HBF := Lib.hid hbF
              clear HZ
              subst hk0
              clear hok hdv hbF hQ4 r0 r1 r2 r3 r4 r5
              go_wp2
              go_ret2
              exact .inr ⟨HRN.out, rfl, HBF.out⟩
end Go.Proofs.YtnknidfpkmnncaaGreat
/- The drawn polynomials as the claims give them. -/
namespace Go.Proofs.YtnknidfpkmnncaaGreat
open Go.RowKit Go.ChangeShapes Go.WideShapes Go.Deep

theorem monoCells : Tryz.prog.cellsOf 49 = 5 := by kernel_rfl
theorem i8Cells : Tryz.prog.cellsOf 23 = 1 := by kernel_rfl
theorem expCells : Tryz.prog.cellsOf 47 = 4 := by kernel_rfl
theorem u8Cells : Tryz.prog.cellsOf 5 = 1 := by kernel_rfl
section
variable {H : Type} {enc : TypeId × Value → H} {W : World}
set_option maxRecDepth 100000 in
/-- One element's cells. -/
theorem open_mono {fuel : Nat} {cs : List Value} {x : DataW H × List MemPlace} {spare : Nat → Bool} {held : Bool} {base : Nat} (h : DataW.trod enc Tryz.prog W base spare held fuel 49 cs = some x) :
    ∃ m : Mono, cs = [.int .i8 m.1, .int .u8 m.2.1, .int .u8 m.2.2.1, .int .u8 m.2.2.2.1, .int .u8 m.2.2.2.2] ∧ MonoOk m := by
  obtain ⟨xs, n, rfl, hx, hl, hxl, hf⟩ := DataW.trod_struct Tryz.underlying49 h
  rw [monoCells] at hl
  match cs, hl with
  | [c0, c1, c2, c3, c4], _ =>
    have h0 : DataW.trod enc Tryz.prog W base spare held n 23 (([c0, c1, c2, c3, c4].drop 0).take (Tryz.prog.cellsOf 23)) = xs[0]? := hf 0 _ rfl
    have h1 : DataW.trod enc Tryz.prog W base spare held n 47 (([c0, c1, c2, c3, c4].drop 1).take (Tryz.prog.cellsOf 47)) = xs[1]? := hf 1 _ rfl
    rw [i8Cells] at h0
    rw [expCells] at h1
    have hs : xs.length = 2 := hxl
    rw [List.getElem?_eq_getElem (by omega)] at h0 h1
    obtain ⟨z, hz, _, hzw⟩ := DataW.trod_int Tryz.underlying23 h0
    obtain ⟨ys, k, rfl, hy, _, hyl, hg⟩ := DataW.trod_array Tryz.underlying47 h1
    rw [u8Cells] at hg
    have g0 := hg 0 (by omega)
    have g1 := hg 1 (by omega)
    have g2 := hg 2 (by omega)
    have g3 := hg 3 (by omega)
    rw [List.getElem?_eq_getElem (by omega)] at g0 g1 g2 g3
    obtain ⟨e0, he0, _, hw0⟩ := DataW.trod_int Tryz.underlying5 g0
    obtain ⟨e1, he1, _, hw1⟩ := DataW.trod_int Tryz.underlying5 g1
    obtain ⟨e2, he2, _, hw2⟩ := DataW.trod_int Tryz.underlying5 g2
    obtain ⟨e3, he3, _, hw3⟩ := DataW.trod_int Tryz.underlying5 g3
    simp at hz he0 he1 he2 he3
    subst hz he0 he1 he2 he3
    simp [Lit.wf] at hzw hw0 hw1 hw2 hw3
    have q1 : IntKind.i8.min = -128 := rfl
    have q2 : IntKind.i8.max = 127 := rfl
    have q3 : IntKind.u8.min = 0 := rfl
    have q4 : IntKind.u8.max = 255 := rfl
    refine ⟨(z, e0, e1, e2, e3), rfl, by show -128 ≤ z; omega, by show z ≤ 127; omega, fun j => ?_⟩
    match j with
    | 0 => show 0 ≤ e0 ∧ e0 ≤ 255; omega
    | 1 => show 0 ≤ e1 ∧ e1 ≤ 255; omega
    | 2 => show 0 ≤ e2 ∧ e2 ≤ 255; omega
    | _ + 3 => show 0 ≤ e3 ∧ e3 ≤ 255; omega
def monoCs (m : Mono) : List Value := [.int .i8 m.1, .int .u8 m.2.1, .int .u8 m.2.2.1, .int .u8 m.2.2.2.1, .int .u8 m.2.2.2.2]
theorem flatM_inv (L : List Mono) : ∀ (k : Nat) (u : Value), (flatM L)[k]? = some u → ∃ i j m, L[i]? = some m ∧ j < 5 ∧ k = i * 5 + j ∧ (monoCs m)[j]? = some u := by
  induction L with
  | nil => intro k u h; simp [flatM] at h
  | cons m L ih =>
    intro k u h
    have e : flatM (m :: L) = monoCs m ++ flatM L := rfl
    rw [e] at h
    rcases Nat.lt_or_ge k 5 with hk | hk
    · rw [List.getElem?_append_left (by exact hk)] at h
      exact ⟨0, k, m, rfl, hk, by omega, h⟩
    · rw [List.getElem?_append_right (by exact hk)] at h
      obtain ⟨i, j, m', h1, h2, h3, h4⟩ := ih _ _ h
      have h5 : (monoCs m).length = 5 := rfl
      exact ⟨i + 1, j, m', by simpa using h1, h2, by omega, h4⟩
theorem flatM_length (L : List Mono) : (flatM L).length = L.length * 5 := by
  induction L with
  | nil => rfl
  | cons m L ih =>
    have e : flatM (m :: L) = monoCs m ++ flatM L := rfl
    rw [e, List.length_append, ih, List.length_cons]
    have h5 : (monoCs m).length = 5 := rfl
    omega
theorem open_monos {fuel : Nat} {v : Value} {x : DataW H × List MemPlace} {spare : Nat → Bool} {held : Bool} {base : Nat} (h : DataW.trod enc Tryz.prog W base spare held fuel 22 [v] = some x) :
    ∃ A n c L, v = .slice A n c ∧ MonoR W.heap.size W A n c L := by
  rcases open_slice Tryz.underlying22 h with ⟨hc, _⟩ | ⟨a, len, cap, m, n, D, Pl, hc, _, hl, hm, hmm, _, hall⟩
  · simp only [List.cons.injEq, and_true] at hc
    exact ⟨none, 0, 0, [], hc, Row.nil, rfl, fun m hm => by cases hm⟩
  · simp only [List.cons.injEq, and_true] at hc
    rw [monoCells] at hall
    have hml : len ≤ m := by rw [hmm]; split <;> omega
    have hch : ∀ i, ∃ mo : Mono, i < len → W.cells? base (a.add (i * 5)) 5 = some (monoCs mo) ∧ MonoOk mo := fun i => by
      by_cases hi : i < len
      · obtain ⟨cs', h1, h2⟩ := hall i (by omega)
        obtain ⟨mo, rfl, h4⟩ := open_mono h2
        exact ⟨mo, fun _ => ⟨h1, h4⟩⟩
      · exact ⟨(0, 0, 0, 0, 0), fun h => absurd h hi⟩
    obtain ⟨f, hf⟩ := Classical.axiomOfChoice hch
    refine ⟨some a, len, cap, (List.range len).map f, hc, ⟨?_, hl, ?_, fun hpos => ⟨a, rfl, ?_, fun k u hu => ?_⟩⟩, by simp, fun mo hmo => ?_⟩
    · rw [flatM_length]; simp
    · exact hm
    · left
      obtain ⟨_, _, h3⟩ := World.cells?_some (hf 0 hpos).1
      have h4 := h3 0 (by decide)
      have := World.block_lt_of_cell? W _ h4
      rwa [block_of_add, block_of_add] at this
    · obtain ⟨i, j, mo, h1, h2, rfl, h4⟩ := flatM_inv _ _ _ hu
      rw [List.getElem?_map] at h1
      have hi : i < len := by
        rcases Nat.lt_or_ge i len with hi | hi
        · exact hi
        · rw [List.getElem?_eq_none (by simpa using hi)] at h1; cases h1
      rw [List.getElem?_range hi] at h1
      injection h1 with h1
      obtain ⟨_, _, h3⟩ := World.cells?_some (hf i hi).1
      have h5 := h3 j h2
      rw [add_of_add] at h5
      rw [h5, ← h4, ← h1]
    · obtain ⟨i, hi, rfl⟩ := List.mem_map.1 hmo
      exact (hf i (by simpa using hi)).2
end
end Go.Proofs.YtnknidfpkmnncaaGreat
/- Many polynomials at one time: calls of checkpoly's functions among them. -/
namespace Go.Proofs.YtnknidfpkmnncaaGreat
open Go.RowKit

def zE : Ex := (0, 0, 0, 0)
/-- A constant. -/
def constL (z : Int) : List Tm := nf [(z, zE)]
set_option maxHeartbeats 1000000 in
theorem const_any (B : Nat) (z : Int) (A : Option Addr) (n c : Nat) (w : World) (hB : B ≤ w.heap.size) (h : Dig B w A n c (digs z.natAbs)) (hz : z.natAbs < big) :
    Calls Tryz.prog 48 #[.agg #[.bool (decide (z < 0)), .slice A n c]] w (PolyP B (constL z) w) := by
  have h1 := PolyC.one h (.cells #[.bool (decide (z < 0)), .slice A n c] 53) zE _ rfl
  have hbw := below_box2 w (.cells #[.bool (decide (z < 0)), .slice A n c] 53) (.cells #[.bool (decide (z < 0)), .slice A n c, .int .i64 zE.1, .int .i64 zE.2.1, .int .i64 zE.2.2.1, .int .i64 zE.2.2.2] 57)
  have hl : l1 [(z, zE)] < big := by rw [l1_cons, l1_nil]; exact hz
  have HN := Lib.hid (normalp_any B _ _ _ [(z, zE)] _ (by have := hbw.size; omega) (h1.wide hl) (by unfold sortLim; omega) hl)
  have HB := Lib.hid hbw
  clear h1 hbw hl h hz
  go_enter Tryz.func48, Tryz.ntmps48
  go_wp2_with fail
  refine HN.out.mono ?_
  rintro e w1 ⟨A1, n1, c1, rfl, h1, hb1⟩
  go_wp2
  go_ret
  exact ⟨_, _, _, rfl, h1, HB.out.trans (hb1.mono HB.out.size)⟩
theorem num_any (B : Nat) (z : Int) (w : World) (hB : B ≤ w.heap.size) (h0 : -9223372036854775808 ≤ z) (h1 : z ≤ 9223372036854775807) :
    Calls Tryz.prog 15 #[.int .i64 z] w (PolyP B (constL z) w) := by
  go_enter Tryz.func15, Tryz.ntmps15
  go_wp2_with fail
  refine (iof_any B z _ hB h0 h1).mono ?_
  rintro e w1 ⟨A1, n1, c1, rfl, h1, hb1⟩
  have HC := Lib.hid (const_any B z A1 n1 c1 w1 (Nat.le_trans hB hb1.size) h1 (lt_big4 (by omega)))
  go_wp2_with fail
  refine HC.out.mono ?_
  rintro e w2 ⟨A2, n2, c2, rfl, h2, hb2⟩
  go_wp2
  go_ret
  exact ⟨_, _, _, rfl, h2, hb1.trans (hb2.mono hb1.size)⟩

/-- Bounds of a polynomial: of its terms' number, of the sum of the coefficients, of the exponents. -/
structure Fit (al : List Tm) (N L E : Nat) : Prop where
  len : al.length ≤ N
  l1 : l1 al ≤ L
  e : AllE al E
  v : AllV al
theorem Fit.nf {al : List Tm} {N L E : Nat} (h : Fit al N L E) : Fit (nf al) N L E := ⟨Nat.le_trans (length_nf _) h.len, Nat.le_trans (l1_nf _) h.l1, h.e.nf, AllV.nf _⟩
theorem Fit.mono {al : List Tm} {N L E N' L' E' : Nat} (h : Fit al N L E) (hN : N ≤ N') (hL : L ≤ L') (hE : E ≤ E') : Fit al N' L' E' := ⟨Nat.le_trans h.len hN, Nat.le_trans h.l1 hL, h.e.mono hE, h.v⟩
theorem Fit.mul {a b : List Tm} {N L E N' L' E' : Nat} (h : Fit a N L E) (h' : Fit b N' L' E') : Fit (mulL a b) (N * N') (L * L') (E + E') :=
  ⟨Nat.le_trans (length_nf_mul _ _) (Nat.mul_le_mul h.len h'.len), Nat.le_trans (l1_nf_mul _ _) (Nat.mul_le_mul h.l1 h'.l1), (h.e.nf.prodL h'.e.nf).nf, AllV.mulL _ _⟩
theorem Fit.add {a b : List Tm} {N L E N' L' E' : Nat} (h : Fit a N L E) (h' : Fit b N' L' E') : Fit (Go.Proofs.YtnknidfpkmnncaaGreat.nf (a ++ b)) (N + N') (L + L') (max E E') :=
  ⟨Nat.le_trans (length_nf_append _ _) (Nat.add_le_add h.len h'.len), Nat.le_trans (l1_nf_append _ _) (Nat.add_le_add h.l1 h'.l1), ((h.e.mono (Nat.le_max_left _ _)).append (h'.e.mono (Nat.le_max_right _ _))).nf, AllV.nf _⟩
theorem Fit.sub {a b : List Tm} {N L E N' L' E' : Nat} (h : Fit a N L E) (h' : Fit b N' L' E') : Fit (Go.Proofs.YtnknidfpkmnncaaGreat.nf (a ++ negL b)) (N + N') (L + L') (max E E') :=
  ⟨Nat.le_trans (length_nf_sub _ _) (Nat.add_le_add h.len h'.len), Nat.le_trans (l1_nf_sub _ _) (Nat.add_le_add h.l1 h'.l1), ((h.e.mono (Nat.le_max_left _ _)).append (h'.e.mono (Nat.le_max_right _ _)).negL).nf, AllV.nf _⟩
theorem zE_valid : validE zE = true := by decide
theorem fit_const (z : Int) (M : Nat) (h : z.natAbs ≤ M) : Fit (constL z) 1 M 0 :=
  Fit.nf ⟨Nat.le_refl _, by rw [l1_cons, l1_nil]; exact h, fun p hp j hj => by
    rw [List.mem_singleton.1 hp]
    match j, hj with
    | 0, _ => exact Nat.le_refl 0
    | 1, _ => exact Nat.le_refl 0
    | 2, _ => exact Nat.le_refl 0
    | 3, _ => exact Nat.le_refl 0, fun p hp => by rw [List.mem_singleton.1 hp]; exact zE_valid⟩
theorem fit_var (i : Nat) (h1 : 1 ≤ i) (h4 : i ≤ 4) : Fit (varL i) 1 1 1 := by
  have h : ∀ i, i ≤ 4 → 1 ≤ i → (varL i).length ≤ 1 ∧ l1 (varL i) ≤ 1 ∧ (∀ p ∈ varL i, ∀ j, j < 4 → (ex p.2 j).toNat ≤ 1) ∧ (∀ p ∈ varL i, validE p.2 = true) := by decide
  obtain ⟨a, b, c, d⟩ := h i h4 h1
  exact ⟨a, b, c, d⟩

/-- A slice that bears a polynomial, and the polynomial's bounds. -/
structure PV where
  A : Option Addr
  n : Nat
  c : Nat
  al : List Tm
  N : Nat
  L : Nat
  E : Nat
def PV.Ok (B : Nat) (w : World) (x : PV) : Prop := PolyC B w x.A x.n x.c x.al ∧ Fit x.al x.N x.L x.E
structure Env (B : Nat) (W w : World) (l : List PV) : Prop where
  all : ∀ (i : Nat) (x : PV), l[i]? = some x → x.Ok B w
  bel : Below W.heap.size W w
  base : B ≤ W.heap.size
section
variable {B : Nat} {W w w' : World} {l : List PV} {e : Ending}
theorem Env.start (hB : B ≤ w.heap.size) : Env B w w [] := ⟨fun i x h => by simp at h, Below.refl _ _, hB⟩
theorem Env.next (h : Env B W w l) (hb : Below w.heap.size w w') : Env B W w' l :=
  ⟨fun i x hx => ⟨(h.all i x hx).1.below hb (Nat.le_refl _), (h.all i x hx).2⟩, h.bel.trans (hb.mono h.bel.size), h.base⟩
theorem Env.le (h : Env B W w l) : B ≤ w.heap.size := Nat.le_trans h.base h.bel.size
theorem Env.push (h : Env B W w l) {x : PV} (hx : x.Ok B w) : Env B W w (x :: l) :=
  ⟨fun i y hy => by
    match i, hy with
    | 0, hy => obtain rfl : x = y := by simpa using hy
               exact hx
    | i + 1, hy => exact h.all i y (by simpa using hy), h.bel, h.base⟩
theorem Env.n_le (h : Env B W w l) {i : Nat} {x : PV} (hx : l[i]? = some x) : x.n ≤ x.N ∧ x.al.length = x.n := by
  have h1 := h.all i x hx
  have h2 := h1.1.len
  exact ⟨by rw [← h2]; exact h1.2.len, h2⟩
/-- The bounds let calls in. -/
def PV.small (x : PV) : Prop := x.N < 1073741824 ∧ x.L < 340282366920938463463374607431768211456 ∧ x.E ≤ 1073741824
theorem Env.wide (h : Env B W w l) {i : Nat} {x : PV} (hx : l[i]? = some x) (hs : x.small) : PolyW B w x.A x.n x.c x.al ∧ x.n < sortLim ∧ l1 x.al < big ∧ Ebd x.al := by
  have h1 := h.all i x hx
  have h2 := h.n_le hx
  have hl : l1 x.al < big := Nat.lt_of_le_of_lt h1.2.l1 (lt_big4 hs.2.1)
  exact ⟨h1.1.wide hl, by unfold sortLim; have := hs.1; omega, hl, h1.2.e.ebd hs.2.2⟩
/-- What a call returns: a new polynomial. -/
def EnvP (B : Nat) (W : World) (l : List PV) (al : List Tm) (N L E : Nat) (e : Ending) (w' : World) : Prop :=
  ∃ A n c, e = .returned (.slice A n c) ∧ Env B W w' (⟨A, n, c, al, N, L, E⟩ :: l)
/-- .. a value. -/
def EnvV (B : Nat) (W : World) (l : List PV) (v : Value) (e : Ending) (w' : World) : Prop :=
  e = .returned v ∧ Env B W w' l
theorem Env.polyP (h : Env B W w l) {al : List Tm} {N L E : Nat} (hp : PolyP B al w e w') (hf : Fit al N L E) : EnvP B W l al N L E e w' := by
  obtain ⟨A, n, c, he, h1, h2⟩ := hp
  exact ⟨A, n, c, he, (h.next h2).push ⟨h1, hf⟩⟩
theorem Env.valP (h : Env B W w l) {v : Value} (hp : ValP v w e w') : EnvV B W l v e w' := ⟨hp.1, h.next hp.2⟩
theorem Env.mul (h : Env B W w l) {i j : Nat} {x y : PV} (hx : l[i]? = some x) (hy : l[j]? = some y) (hs : x.small) (hs2 : y.small) (hn : x.N * y.N < 1073741824) (hl : x.L * y.L < 340282366920938463463374607431768211456) :
    Calls Tryz.prog 18 #[.slice x.A x.n x.c, .slice y.A y.n y.c] w (EnvP B W l (mulL x.al y.al) (x.N * y.N) (x.L * y.L) (x.E + y.E)) := by
  obtain ⟨p1, n1, l1', e1⟩ := h.wide hx hs
  obtain ⟨p2, n2, l2', e2⟩ := h.wide hy hs2
  have f1 := (h.all i x hx).2
  have f2 := (h.all j y hy).2
  refine (mulp_any B x.A y.A x.n x.c y.n y.c x.al y.al w h.le p1 p2 n1 n2 ?_ l1' l2' ?_ e1 e2).mono fun e w' hp => h.polyP hp (f1.mul f2)
  · have h3 : x.n * y.n ≤ x.N * y.N := Nat.mul_le_mul (h.n_le hx).1 (h.n_le hy).1
    unfold sortLim; omega
  · exact Nat.lt_of_le_of_lt (Nat.mul_le_mul f1.l1 f2.l1) (lt_big4 hl)
theorem Env.add (h : Env B W w l) {i j : Nat} {x y : PV} (hx : l[i]? = some x) (hy : l[j]? = some y) (hs : x.small) (hs2 : y.small) (hn : x.N + y.N < 1073741824) (hl : x.L + y.L < 340282366920938463463374607431768211456) :
    Calls Tryz.prog 17 #[.slice x.A x.n x.c, .slice y.A y.n y.c] w (EnvP B W l (nf (x.al ++ y.al)) (x.N + y.N) (x.L + y.L) (max x.E y.E)) := by
  obtain ⟨p1, n1, l1', e1⟩ := h.wide hx hs
  obtain ⟨p2, n2, l2', e2⟩ := h.wide hy hs2
  have f1 := (h.all i x hx).2
  have f2 := (h.all j y hy).2
  refine (addp_new B x.A y.A x.n x.c y.n y.c x.al y.al w h.le p1 p2 ?_ ?_).mono fun e w' hp => h.polyP hp.polyP (f1.add f2)
  · have h3 := (h.n_le hx).1
    have h4 := (h.n_le hy).1
    unfold sortLim; omega
  · exact Nat.lt_of_le_of_lt (Nat.add_le_add f1.l1 f2.l1) (lt_big4 hl)
theorem Env.sub (h : Env B W w l) {i j : Nat} {x y : PV} (hx : l[i]? = some x) (hy : l[j]? = some y) (hs : x.small) (hs2 : y.small) (hn : x.N + y.N < 1073741824) (hl : x.L + y.L < 340282366920938463463374607431768211456) :
    Calls Tryz.prog 75 #[.slice x.A x.n x.c, .slice y.A y.n y.c] w (EnvP B W l (nf (x.al ++ negL y.al)) (x.N + y.N) (x.L + y.L) (max x.E y.E)) := by
  obtain ⟨p1, n1, l1', e1⟩ := h.wide hx hs
  obtain ⟨p2, n2, l2', e2⟩ := h.wide hy hs2
  have f1 := (h.all i x hx).2
  have f2 := (h.all j y hy).2
  refine (subp_new B x.A y.A x.n x.c y.n y.c x.al y.al w h.le p1 p2 ?_ ?_).mono fun e w' hp => h.polyP hp.polyP (f1.sub f2)
  · have h3 := (h.n_le hx).1
    have h4 := (h.n_le hy).1
    unfold sortLim; omega
  · exact Nat.lt_of_le_of_lt (Nat.add_le_add f1.l1 f2.l1) (lt_big4 hl)
theorem Env.normal (h : Env B W w l) {i : Nat} {x : PV} (hx : l[i]? = some x) (hs : x.small) :
    Calls Tryz.prog 8 #[.slice x.A x.n x.c] w (EnvP B W l (nf x.al) x.N x.L x.E) := by
  obtain ⟨p1, n1, l1', e1⟩ := h.wide hx hs
  exact (normalp_any B x.A x.n x.c x.al w h.le p1 n1 l1').mono fun e w' hp => h.polyP hp (h.all i x hx).2.nf
theorem Env.equal (h : Env B W w l) {i j : Nat} {x y : PV} (hx : l[i]? = some x) (hy : l[j]? = some y) (hs : x.small) (hs2 : y.small) :
    Calls Tryz.prog 19 #[.slice x.A x.n x.c, .slice y.A y.n y.c] w (EnvV B W l (.bool (decide (x.al = y.al)))) :=
  (equal_any B x.A y.A x.n x.c y.n y.c x.al y.al w (h.all i x hx).1 (h.all j y hy).1 (by have := (h.n_le hx).1; have := hs.1; omega) (by have := (h.n_le hy).1; have := hs2.1; omega)).mono fun e w' hp => h.valP hp
theorem Env.num (h : Env B W w l) (z : Int) (M : Nat) (hz : z.natAbs ≤ M) (hM : M ≤ 9223372036854775807) :
    Calls Tryz.prog 15 #[.int .i64 z] w (EnvP B W l (constL z) 1 M 0) :=
  (num_any B z w h.le (by omega) (by omega)).mono fun e w' hp => h.polyP hp (fit_const z M hz)
theorem Env.var (h : Env B W w l) (i : Nat) (h1 : 1 ≤ i) (h4 : i ≤ 4) :
    Calls Tryz.prog 11 #[.int .i64 i] w (EnvP B W l (varL i) 1 1 1) :=
  (var_any B i w h.le h1 h4).mono fun _e _w' hp => h.polyP hp (fit_var i h1 h4)
theorem Env.poly (h : Env B W w l) {A : Option Addr} {n c : Nat} {L : List Mono} (hm : MonoR B W A n c L) {N E : Nat} (hn : n ≤ N) (hN : N < 1073741824) (hf : FewL L (E : Int)) :
    Calls Tryz.prog 7 #[.slice A n c] w (EnvP B W l L N (128 * N) E) :=
  (poly_any B A n c L w h.le (hm.below h.bel (Nat.le_refl _)) (by omega)).mono fun e w' hp => h.polyP hp ⟨by rw [hm.lenL]; exact hn, Nat.le_trans (l1_mono hm.rng) (Nat.mul_le_mul_left _ (by rw [hm.lenL]; exact hn)), fewE hf, monoV hm.rng⟩
theorem Env.awake (h : Env B W w l) : Calls Tryz.prog 5 #[] w (EnvV B W l (.bool true)) := (awake_any w).mono fun _e _w' hp => h.valP hp
/-- The answer of Few among polynomials. -/
def EnvFew (B : Nat) (W : World) (l : List PV) (n m : Nat) (y : Int) (L : List Mono) (e : Ending) (w' : World) : Prop :=
  ∃ b, e = .returned (.bool b) ∧ Hid (b = true ↔ n ≤ m ∧ FewL L y) ∧ Env B W w' l
theorem Env.few (h : Env B W w l) {A : Option Addr} {n c : Nat} {L : List Mono} (hm : MonoR B W A n c L) (m : Nat) (y : Int) (hm2 : m ≤ 1073741824) (hy : 0 ≤ y) (hy2 : y ≤ 255) :
    Calls Tryz.prog 6 #[.slice A n c, .int .i64 m, .int .u8 y] w (EnvFew B W l n m y L) :=
  (few_any B A n c m y L w (hm.below h.bel (Nat.le_refl _)) (Nat.le_trans hm.row.cap hm.row.bd) hm2 hy hy2).mono fun e w' hp => by
    obtain ⟨⟨b, he, hb⟩, h2⟩ := hp
    exact ⟨b, he, Lib.hid hb, h.next h2⟩
/-- What Exact returns, among polynomials. -/
def EnvEx (B : Nat) (W : World) (l : List PV) (al : List Tm) (N L E : Nat) (e : Ending) (w' : World) : Prop :=
  ∃ A n c, e = .returned (.tuple #[.slice A n c, .bool true]) ∧ Env B W w' (⟨A, n, c, al, N, L, E⟩ :: l)
def EnvNo (B : Nat) (W : World) (l : List PV) (e : Ending) (w' : World) : Prop :=
  e = .returned (.tuple #[.slice none 0 0, .bool false]) ∧ Env B W w' l
theorem Env.exact_zero (h : Env B W w l) {i j : Nat} {x y : PV} (hx : l[i]? = some x) (hy : l[j]? = some y) (hs : x.small) (hs2 : y.small) (hz : nf y.al = []) :
    Calls Tryz.prog 55 #[.slice x.A x.n x.c, .slice y.A y.n y.c] w (EnvNo B W l) := by
  obtain ⟨p1, n1, l1', e1⟩ := h.wide hx hs
  obtain ⟨p2, n2, l2', e2⟩ := h.wide hy hs2
  refine (exactp_zero B x.A y.A x.n x.c y.n y.c x.al y.al w h.le p1 p2 n1 n2 l1' l2' hz).mono fun e w' hp => ?_
  rcases hp with ⟨_, _, _, _, h1, _⟩ | ⟨_, h2, h3⟩
  · cases h1
  · exact ⟨h2, h.next h3⟩
end
theorem lt_bp_pow (L : Nat) {n k : Nat} (h : n ≤ 2 ^ k) (hk : k < 32 * L) : n < bp L := by
  have h1 : 2 ^ k < 2 ^ (32 * L) := Nat.pow_lt_pow_right (by omega) hk
  rw [Nat.pow_mul] at h1
  exact Nat.lt_of_le_of_lt h h1
theorem lt_mid {n k : Nat} (h : n ≤ 2 ^ k) (hk : k < 17179869184) : n < mid := by
  unfold mid
  exact lt_bp_pow _ h (by omega)
section
variable {B : Nat} {W w w' : World} {l : List PV} {e : Ending}
theorem nf_cons_of {al : List Tm} (h : nf al ≠ []) : ∃ t d', nf al = t :: d' := by
  cases h1 : nf al with
  | nil => exact absurd h1 h
  | cons t d' => exact ⟨t, d', rfl⟩
/-- A product is divided by a factor. -/
theorem Env.exact_mul (h : Env B W w l) {i j : Nat} {x y : PV} (hx : l[i]? = some x) (hy : l[j]? = some y) (hs : x.small) (hs2 : y.small) (hz : nf y.al ≠ []) (f : List Tm) {N L E : Nat} (hf : Fit f N L E) (hm : nf x.al = mulL f y.al) (hN : N < 16384) (hyN : y.N < 16384) (hL : L * y.L * (2 + y.L) < 340282366920938463463374607431768211456) (hE : E + y.E ≤ 1073741824) (hL2 : L < 340282366920938463463374607431768211456) :
    Calls Tryz.prog 55 #[.slice x.A x.n x.c, .slice y.A y.n y.c] w (EnvEx B W l (nf f) N L E) := by
  obtain ⟨p1, n1, l1', e1⟩ := h.wide hx hs
  obtain ⟨p2, n2, l2', e2⟩ := h.wide hy hs2
  have f2 := (h.all j y hy).2.nf
  obtain ⟨t, d', hd⟩ := nf_cons_of hz
  have cd : Canon (t :: d') := by rw [← hd]; exact nf_canon _
  rw [hd] at f2
  have hfn := hf.nf
  have hNN : N * y.N ≤ 16384 * 16384 := Nat.mul_le_mul (by omega) (by omega)
  have hok : ExOk (t :: d') t (nf f).length (nf (prodL (nf f) (t :: d'))) [] (some ([] ++ nf f)) := by
    refine exOk_exact cd (E := E) (F := y.E) (LD := y.N) (R := L) f2.e f2.len hE ?_ (nf f) (nf_canon f) hfn.e hfn.l1 N hfn.len (by omega) [] ?_ ?_
    · refine lt_mid (k := 128) (Nat.le_trans (Nat.mul_le_mul (Nat.mul_le_mul_left _ f2.l1) (Nat.add_le_add_left f2.l1 2)) (Nat.le_of_lt ?_)) (by omega)
      exact Nat.lt_of_lt_of_le hL (by decide)
    · have := hfn.len
      simp only [List.length_nil]; omega
    · rw [l1_nil, Nat.zero_add]
      exact Nat.lt_of_le_of_lt hfn.l1 (lt_big4 hL2)
  have hm2 : nf (prodL (nf f) (t :: d')) = nf x.al := by rw [hm, ← hd]; rfl
  rw [hm2] at hok
  refine (exactp_any B x.A y.A x.n x.c y.n y.c x.al y.al w h.le p1 p2 n1 n2 l1' l2' t d' hd _ _ hok (by have := hfn.len; omega)).mono fun e w' hp => ?_
  rcases hp with ⟨q, A, n, c, h1, h2, h3, h4⟩ | ⟨h1, _⟩
  · injection h1 with h1
    rw [List.nil_append] at h1
    rw [← h1, nf_nf] at h3
    exact ⟨A, n, c, h2, (h.next h4).push ⟨h3, hfn⟩⟩
  · cases h1
/-- What an exact division returns of arguments with small exponents: a quotient, or none. -/
def EnvDiv (B : Nat) (W : World) (l : List PV) (a d : List Tm) (e : Ending) (w' : World) : Prop :=
  (∃ q A n c, e = .returned (.tuple #[.slice A n c, .bool true]) ∧ PolyC B w' A n c (nf q) ∧ (n ≤ 16777216 ∧ l1 (nf q) < mid ∧ AllE (nf q) 511) ∧ Hid (AllV q ∧ nf a = mulL q d) ∧ Env B W w' l) ∨ (e = .returned (.tuple #[.slice none 0 0, .bool false]) ∧ Env B W w' l)
theorem of_blt {a b : Nat} (h : Nat.ble a b = true) : a < b + 1 := Nat.lt_succ_of_le (Nat.le_of_ble_eq_true h)
def PV.okB (x : PV) : Bool := Nat.ble x.N 1073741823 && (Nat.ble x.L 340282366920938463463374607431768211455 && Nat.ble x.E 1073741824)
theorem PV.small_of {x : PV} (h : x.okB = true) : x.small := by
  unfold PV.okB at h
  rw [Bool.and_eq_true, Bool.and_eq_true] at h
  exact ⟨of_blt h.1, of_blt h.2.1, Nat.le_of_ble_eq_true h.2.2⟩
def PV.mulB (x y : PV) : Bool := (x.okB && y.okB) && (Nat.ble (x.N * y.N) 1073741823 && Nat.ble (x.L * y.L) 340282366920938463463374607431768211455)
def PV.addB (x y : PV) : Bool := (x.okB && y.okB) && (Nat.ble (x.N + y.N) 1073741823 && Nat.ble (x.L + y.L) 340282366920938463463374607431768211455)
theorem Env.tail {x : PV} (h : Env B W w (x :: l)) : Env B W w l := ⟨fun i y hy => h.all (i + 1) y (by simpa using hy), h.bel, h.base⟩
theorem Env.mul' (h : Env B W w l) {i j : Nat} {x y : PV} (hx : l[i]? = some x) (hy : l[j]? = some y) (hb : x.mulB y = true) :
    Calls Tryz.prog 18 #[.slice x.A x.n x.c, .slice y.A y.n y.c] w (EnvP B W l (mulL x.al y.al) (x.N * y.N) (x.L * y.L) (x.E + y.E)) := by
  unfold PV.mulB at hb
  rw [Bool.and_eq_true, Bool.and_eq_true, Bool.and_eq_true] at hb
  exact h.mul hx hy (PV.small_of hb.1.1) (PV.small_of hb.1.2) (of_blt hb.2.1) (of_blt hb.2.2)
theorem Env.add' (h : Env B W w l) {i j : Nat} {x y : PV} (hx : l[i]? = some x) (hy : l[j]? = some y) (hb : x.addB y = true) :
    Calls Tryz.prog 17 #[.slice x.A x.n x.c, .slice y.A y.n y.c] w (EnvP B W l (nf (x.al ++ y.al)) (x.N + y.N) (x.L + y.L) (max x.E y.E)) := by
  unfold PV.addB at hb
  rw [Bool.and_eq_true, Bool.and_eq_true, Bool.and_eq_true] at hb
  exact h.add hx hy (PV.small_of hb.1.1) (PV.small_of hb.1.2) (of_blt hb.2.1) (of_blt hb.2.2)
theorem Env.sub' (h : Env B W w l) {i j : Nat} {x y : PV} (hx : l[i]? = some x) (hy : l[j]? = some y) (hb : x.addB y = true) :
    Calls Tryz.prog 75 #[.slice x.A x.n x.c, .slice y.A y.n y.c] w (EnvP B W l (nf (x.al ++ negL y.al)) (x.N + y.N) (x.L + y.L) (max x.E y.E)) := by
  unfold PV.addB at hb
  rw [Bool.and_eq_true, Bool.and_eq_true, Bool.and_eq_true] at hb
  exact h.sub hx hy (PV.small_of hb.1.1) (PV.small_of hb.1.2) (of_blt hb.2.1) (of_blt hb.2.2)
theorem Env.normal' (h : Env B W w l) {i : Nat} {x : PV} (hx : l[i]? = some x) (hb : x.okB = true) :
    Calls Tryz.prog 8 #[.slice x.A x.n x.c] w (EnvP B W l (nf x.al) x.N x.L x.E) := h.normal hx (PV.small_of hb)
theorem Env.equal_yes (h : Env B W w l) {i j : Nat} {x y : PV} (hx : l[i]? = some x) (hy : l[j]? = some y) (hb : x.okB = true) (hb2 : y.okB = true) (he : x.al = y.al) :
    Calls Tryz.prog 19 #[.slice x.A x.n x.c, .slice y.A y.n y.c] w (EnvV B W l (.bool true)) := by
  have h1 := h.equal hx hy (PV.small_of hb) (PV.small_of hb2)
  rw [decide_eq_true he] at h1
  exact h1
theorem mulL_one {a : List Tm} (ha : AllV a) : mulL a (constL 1) = nf a := by
  have h1 : constL 1 = [(1, zE)] := by decide
  have hV : AllV [((1 : Int), zE)] := fun p hp => by rw [List.mem_singleton.1 hp]; exact zE_valid
  rw [h1]
  refine canon_unique (mulL_canon _ _) (nf_canon _) fun e => ?_
  have h2 : subE e zE = e := by apply ex_ext <;> simp [subE, zE]
  rw [cf_mulL ha hV, cf_prodL_cons_right, cf_prodL_nil, cf_nfV ha, h2]
  omega
def PV.resB (x y : PV) (n l e N L E : Nat) : Bool := (x.okB && y.okB) && ((Nat.ble n N && (Nat.ble l L && Nat.ble e E)) && (Nat.ble N 1073741823 && Nat.ble L 340282366920938463463374607431768211455))
theorem PV.resB_of {x y : PV} {n l e N L E : Nat} (h : x.resB y n l e N L E = true) : x.small ∧ y.small ∧ n ≤ N ∧ l ≤ L ∧ e ≤ E ∧ N < 1073741824 ∧ L < 340282366920938463463374607431768211456 := by
  unfold PV.resB at h
  simp only [Bool.and_eq_true] at h
  exact ⟨PV.small_of h.1.1, PV.small_of h.1.2, Nat.le_of_ble_eq_true h.2.1.1, Nat.le_of_ble_eq_true h.2.1.2.1, Nat.le_of_ble_eq_true h.2.1.2.2, of_blt h.2.2.1, of_blt h.2.2.2⟩
theorem EnvP.mono {al : List Tm} {N L E N' L' E' : Nat} (h : EnvP B W l al N L E e w') (hN : N ≤ N') (hL : L ≤ L') (hE : E ≤ E') : EnvP B W l al N' L' E' e w' := by
  obtain ⟨A, n, c, he, hv⟩ := h
  exact ⟨A, n, c, he, hv.tail.push ⟨(hv.all 0 _ rfl).1, (hv.all 0 _ rfl).2.mono hN hL hE⟩⟩
theorem Env.mul2 (h : Env B W w l) (i j N L E : Nat) {x y : PV} (hx : l[i]? = some x) (hy : l[j]? = some y) (hb : x.resB y (x.N * y.N) (x.L * y.L) (x.E + y.E) N L E = true) :
    Calls Tryz.prog 18 #[.slice x.A x.n x.c, .slice y.A y.n y.c] w (EnvP B W l (mulL x.al y.al) N L E) := by
  obtain ⟨h1, h2, h3, h4, h5, h6, h7⟩ := PV.resB_of hb
  exact (h.mul hx hy h1 h2 (by omega) (by omega)).mono fun e w' hp => hp.mono h3 h4 h5
theorem Env.add2 (h : Env B W w l) (i j N L E : Nat) {x y : PV} (hx : l[i]? = some x) (hy : l[j]? = some y) (hb : x.resB y (x.N + y.N) (x.L + y.L) (x.E + y.E) N L E = true) :
    Calls Tryz.prog 17 #[.slice x.A x.n x.c, .slice y.A y.n y.c] w (EnvP B W l (nf (x.al ++ y.al)) N L (max x.E y.E)) := by
  obtain ⟨h1, h2, h3, h4, h5, h6, h7⟩ := PV.resB_of hb
  exact (h.add hx hy h1 h2 (by omega) (by omega)).mono fun e w' hp => hp.mono h3 h4 (Nat.le_refl _)
theorem Env.add3 (h : Env B W w l) (i j N L E : Nat) {x y : PV} (hx : l[i]? = some x) (hy : l[j]? = some y) (hb : x.resB y (x.N + y.N) (x.L + y.L) x.E N L E = true) (hE : Nat.ble y.E E = true) :
    Calls Tryz.prog 17 #[.slice x.A x.n x.c, .slice y.A y.n y.c] w (EnvP B W l (nf (x.al ++ y.al)) N L E) := by
  obtain ⟨h1, h2, h3, h4, h5, h6, h7⟩ := PV.resB_of hb
  exact (h.add hx hy h1 h2 (by omega) (by omega)).mono fun e w' hp => hp.mono h3 h4 (Nat.max_le.2 ⟨h5, Nat.le_of_ble_eq_true hE⟩)
theorem Env.sub3 (h : Env B W w l) (i j N L E : Nat) {x y : PV} (hx : l[i]? = some x) (hy : l[j]? = some y) (hb : x.resB y (x.N + y.N) (x.L + y.L) x.E N L E = true) (hE : Nat.ble y.E E = true) :
    Calls Tryz.prog 75 #[.slice x.A x.n x.c, .slice y.A y.n y.c] w (EnvP B W l (nf (x.al ++ negL y.al)) N L E) := by
  obtain ⟨h1, h2, h3, h4, h5, h6, h7⟩ := PV.resB_of hb
  exact (h.sub hx hy h1 h2 (by omega) (by omega)).mono fun e w' hp => hp.mono h3 h4 (Nat.max_le.2 ⟨h5, Nat.le_of_ble_eq_true hE⟩)
theorem Env.poly2 (h : Env B W w l) {A : Option Addr} {n c : Nat} {L : List Mono} (hm : MonoR B W A n c L) (N M E : Nat) (hn : n ≤ N) (hN : N < 1073741824) (hM : 128 * N ≤ M) (hf : FewL L (E : Int)) :
    Calls Tryz.prog 7 #[.slice A n c] w (EnvP B W l L N M E) :=
  (h.poly hm hn hN hf).mono fun _e _w' hp => hp.mono (Nat.le_refl _) hM (Nat.le_refl _)
end
end Go.Proofs.YtnknidfpkmnncaaGreat
/- checkpoly's functions at a level that there is not. -/
namespace Go.Proofs.YtnknidfpkmnncaaGreat
open Go.RowKit

/-- The degree in a variable that there is not. -/
def zdeg (al : List Tm) : Int := if al.length = 0 then -1 else 0
set_option maxRecDepth 100000 in
set_option maxHeartbeats 1000000 in
theorem degree_bad (B : Nat) (A : Option Addr) (n c : Nat) (al : List Tm) (z : Int) (w : World) (hB : B ≤ w.heap.size) (h : PolyW B w A n c al) (hn : n < sortLim) (hl : l1 al < big) (hz : z < 1 ∨ 4 < z) :
    Calls Tryz.prog 9 #[.slice A n c, .int .i64 z] w (ValP (.int .i64 (zdeg (nf al))) w) := by
  have hnm : n ≤ 1073741824 := by unfold sortLim at hn; omega
  obtain ⟨b1, hb1'⟩ : ∃ b, decide (1 ≤ z) = b := ⟨_, rfl⟩
  have HB1 : b1 = true → decide (z ≤ 4) = false := fun hb => by
    rw [hb, decide_eq_true_eq] at hb1'
    rw [decide_eq_false_iff_not]; omega
  go_enter Tryz.func9, Tryz.ntmps9
  go_wp2_with fail
  refine (normalp_any B A n c al _ hB h hn hl).mono ?_
  rintro e w1 ⟨A', n', c', rfl, h1, hb1⟩
  have hl1 : n' ≤ n := by have h3 := h1.len; have h4 := length_nf al; have h5 := h.len; omega
  have hc1 := h1.cap
  generalize nf al = a at *
  clear h hl
  go_wp2
  go_loopw [5, 11] (fun d i wr => ∃ (k : Nat) (y : Int), k ≤ n' ∧ i = .int .i64 k ∧ d = .int .i64 y ∧ Below w1.heap.size w1 wr ∧ Hid (y = if k = 0 then -1 else 0)) (fun _ i _ => n' - (intOf i).toNat)
  case atStart => exact ⟨0, -1, Nat.zero_le _, rfl, rfl, Below.refl _ _, Lib.hid rfl⟩
  case round =>
    obtain ⟨k, y, hk, rfl, rfl, hb, HV⟩ := hrel
    by_cases hkn : k < n'
    · obtain ⟨b, off, rfl, hs1, HT⟩ := h1.term (by omega)
      obtain ⟨t, p, hp, hte, hcf, hh2, hh4⟩ := HT k hkn
      have hh2' := held2_below hh2 hb hs1
      have hh4' := held4_below hh4 hb hs1
      obtain ⟨c0, c1⟩ := hh2'
      obtain ⟨d0, d1, d2, d3⟩ := hh4'
      have i0 : (0 : Int) ≤ (k : Int) := by omega
      have i1 : (k : Int) < (n' : Int) := by omega
      clear HT hp hte hcf hh2 hh4
      have hbx := hb.alloc hb.size (.cells #[.bool t.neg, .slice t.A t.n t.c, .int .i64 t.e.1, .int .i64 t.e.2.1, .int .i64 t.e.2.2.1, .int .i64 t.e.2.2.2] 57)
      have hy : (if y < 0 then (0 : Int) else y) = 0 := by
        have h9 := HV.out
        split <;> split at h9 <;> omega
      have hy2 : y = -1 ∨ y = 0 := by
        have h9 := HV.out
        split at h9 <;> omega
      have HR := Lib.hid (show (0 : Int) = if k + 1 = 0 then -1 else 0 by simp)
      rcases hy2 with rfl | rfl <;> cases b1
      all_goals
        try have hb4 := HB1 rfl
        clear HV hy
        go_wp2
        go_roundw
        case rel => exact ⟨k + 1, 0, by omega, by go_num, rfl, hbx, HR⟩
        case measure => simp [intOf]; omega
    · have hkn' : k = n' := by omega
      subst hkn'
      have HF := Lib.hid (show zdeg a = y by
        have h2 := HV.out
        unfold zdeg
        rw [h1.len]; exact h2.symm)
      go_wp2
      go_ret
      exact ⟨by rw [HF.out]; rfl, hb1.trans (hb.mono hb1.size)⟩

theorem coef_bad (A : Option Addr) (n c : Nat) (z d : Int) (w : World) (hz : z < 1 ∨ 4 < z) :
    Calls Tryz.prog 10 #[.slice A n c, .int .i64 z, .int .i64 d] w (ValP (.slice none 0 0) w) := by
  rcases hz with hz | hz
  · have h1 : decide (z < 1) = true := by rw [decide_eq_true_eq]; omega
    go_enter Tryz.func10, Tryz.ntmps10
    go_wp2
    go_ret
    exact ⟨rfl, Below.refl _ _⟩
  · have h1 : decide (z < 1) = false := by rw [decide_eq_false_iff_not]; omega
    have h2 : decide (4 < z) = true := by rw [decide_eq_true_eq]; omega
    go_enter Tryz.func10, Tryz.ntmps10
    go_wp2
    go_ret
    exact ⟨rfl, Below.refl _ _⟩
theorem var_bad (z : Int) (w : World) (hz : z < 1 ∨ 4 < z) :
    Calls Tryz.prog 11 #[.int .i64 z] w (ValP (.slice none 0 0) w) := by
  rcases hz with hz | hz
  · have h1 : decide (z < 1) = true := by rw [decide_eq_true_eq]; omega
    go_enter Tryz.func11, Tryz.ntmps11
    go_wp2
    go_ret
    exact ⟨rfl, Below.refl _ _⟩
  · have h1 : decide (z < 1) = false := by rw [decide_eq_false_iff_not]; omega
    have h2 : decide (4 < z) = true := by rw [decide_eq_true_eq]; omega
    go_enter Tryz.func11, Tryz.ntmps11
    go_wp2
    go_ret
    exact ⟨rfl, Below.refl _ _⟩
theorem deriv_bad (A : Option Addr) (n c : Nat) (z : Int) (w : World) (hz : z < 1 ∨ 4 < z) :
    Calls Tryz.prog 12 #[.slice A n c, .int .i64 z] w (ValP (.slice none 0 0) w) := by
  rcases hz with hz | hz
  · have h1 : decide (z < 1) = true := by rw [decide_eq_true_eq]; omega
    go_enter Tryz.func12, Tryz.ntmps12
    go_wp2
    go_ret
    exact ⟨rfl, Below.refl _ _⟩
  · have h1 : decide (z < 1) = false := by rw [decide_eq_false_iff_not]; omega
    have h2 : decide (4 < z) = true := by rw [decide_eq_true_eq]; omega
    go_enter Tryz.func12, Tryz.ntmps12
    go_wp2
    go_ret
    exact ⟨rfl, Below.refl _ _⟩
theorem zdeg_small (al : List Tm) : zdeg al < 1 := by
  unfold zdeg
  split <;> omega
set_option maxRecDepth 100000 in
set_option maxHeartbeats 2000000 in
theorem reducta_bad (B : Nat) (A : Option Addr) (n c : Nat) (al : List Tm) (z : Int) (w : World) (hB : B ≤ w.heap.size) (h : PolyW B w A n c al) (hn : n < sortLim) (hl : l1 al < big) (hz : z < 1 ∨ 4 < z) :
    Calls Tryz.prog 13 #[.slice A n c, .int .i64 z] w (ValP (.slice none 0 0) w) := by
  have hal0 : Below w.heap.size w (w.alloc (.cells #[.int .i64 z] 3)) := (Below.refl _ _).alloc (Nat.le_refl _) _
  have HN := Lib.hid (normalp_any B A n c al (w.alloc (.cells #[.int .i64 z] 3)) (Nat.le_trans hB hal0.size) (h.below hal0 (Nat.le_refl _)) hn hl)
  have hcp1 : (w.alloc (.cells #[.int .i64 z] 3)).cell? ⟨w.heap.size, 0, none⟩ = some (.int .i64 z) := by
    rw [cell_of_row _ _ 0 _ _ _ (heap_alloc_new w _)]; rfl
  have hp1l : w.heap.size < (w.alloc (.cells #[.int .i64 z] 3)).heap.size := by simp
  have hlen : (nf al).length ≤ n := by have h4 := length_nf al; have h5 := h.len; omega
  have HL2 := Lib.hid (Nat.lt_of_le_of_lt (l1_nf al) hl)
  have HZ := Lib.hid hz
  clear h hl hz
  generalize nf al = a at *
  go_enter Tryz.func13, Tryz.ntmps13
  go_wp2_with fail
  refine HN.out.mono ?_
  rintro e w1 ⟨A', n', c', rfl, h1, hb1⟩
  have hcp1' := (hb1.cell (p := ⟨w.heap.size, 0, none⟩) hp1l).trans hcp1
  have hbw := hal0.trans (hb1.mono hal0.size)
  have HD := Lib.hid (degree_bad B A' n' c' a z w1 (Nat.le_trans hB hbw.size) (h1.wide HL2.out) (by have := h1.len; omega) HL2.out HZ.out)
  have HS := Lib.hid (show zdeg (nf a) < 1 from zdeg_small _)
  generalize zdeg (nf a) = y at *
  have hy : decide (1 ≤ y) = false := by rw [decide_eq_false_iff_not]; have := HS.out; omega
  clear hcp1 hb1 hp1l HN h1
  go_wp2_with fail
  go_loopw [5, 6] (fun v r wr => v = .slice none 0 0 ∧ r = .slice A' n' c' ∧ wr = w1) (fun _ _ _ => 0)
  case atStart => exact ⟨rfl, rfl, rfl⟩
  case round =>
    obtain ⟨rfl, rfl, rfl⟩ := hrel
    go_wp2_with fail
    refine HD.out.mono ?_
    rintro e w2 ⟨rfl, hb2⟩
    have HB := Lib.hid (hbw.trans (hb2.mono hbw.size))
    clear hb2 hbw
    go_wp2
    go_ret
    exact ⟨rfl, HB.out⟩
end Go.Proofs.YtnknidfpkmnncaaGreat
/- Plain laws: a polynomial is the sum of its coefficients times the powers; degrees and levels. -/
namespace Go.Proofs.YtnknidfpkmnncaaGreat

/-- The terms of a derivative. -/
def derL (j : Nat) (al : List Tm) : List Tm := (al.filter fun p => decide (0 < ex p.2 j)).map fun p => (p.1 * ex p.2 j, shiftE j (-1) p.2)
theorem derL_step {j : Nat} {al : List Tm} {i : Nat} {p : Tm} (h : al[i]? = some p) : derL j (al.take (i + 1)) = if 0 < ex p.2 j then derL j (al.take i) ++ [(p.1 * ex p.2 j, shiftE j (-1) p.2)] else derL j (al.take i) := by
  unfold derL
  rw [List.take_add_one, h, List.filter_append]
  by_cases he : 0 < ex p.2 j
  · simp [he]
  · simp [he]
theorem derL_len (j : Nat) (al : List Tm) : (derL j al).length ≤ al.length := by
  unfold derL
  rw [List.length_map]
  exact List.length_filter_le _ _
theorem derL_l1 {j E : Nat} (hj : j < 4) {al : List Tm} (h : AllE al E) : l1 (derL j al) ≤ l1 al * E := by
  induction al with
  | nil => exact Nat.zero_le _
  | cons p al ih =>
    have h1 := ih (fun q hq => h q (List.mem_cons_of_mem _ hq))
    have h2 := h p (List.mem_cons_self ..) j hj
    unfold derL at h1 ⊢
    rw [List.filter_cons, l1_cons, Nat.add_mul]
    by_cases he : 0 < ex p.2 j
    · rw [if_pos (by simpa using he), List.map_cons, l1_cons]
      show (p.1 * ex p.2 j).natAbs + _ ≤ _
      rw [Int.natAbs_mul]
      have h3 : p.1.natAbs * (ex p.2 j).natAbs ≤ p.1.natAbs * E := Nat.mul_le_mul_left _ (by omega)
      omega
    · rw [if_neg (by simpa using he)]
      omega

theorem cf_filterE (q : Ex → Bool) (l : List Tm) (e : Ex) : cf (l.filter fun p => q p.2) e = if q e = true then cf l e else 0 := by
  induction l with
  | nil => simp [cf_nil]
  | cons p l ih =>
    rw [List.filter_cons, cf_cons]
    by_cases hp : p.2 = e
    · rw [hp, if_pos rfl]
      by_cases hq : q e = true
      · rw [if_pos hq, if_pos hq, cf_cons, ih, if_pos hq, if_pos hp]
      · rw [if_neg hq, if_neg hq, ih, if_neg hq]
    · rw [if_neg hp]
      by_cases hq : q p.2 = true
      · rw [if_pos hq, cf_cons, ih, if_neg hp]
        split <;> omega
      · rw [if_neg hq, ih]
        split <;> omega
theorem shift_zero_ex {j : Nat} (hj : j < 4) {d : Int} {e f : Ex} : (zeroE j f = e ∧ ex f j = d) ↔ (ex e j = 0 ∧ f = shiftE j d e) := by
  obtain ⟨a, b, c, x⟩ := e
  obtain ⟨a', b', c', x'⟩ := f
  match j, hj with
  | 0, _ => simp only [zeroE, shiftE, ex, Prod.mk.injEq]; omega
  | 1, _ => simp only [zeroE, shiftE, ex, Prod.mk.injEq]; omega
  | 2, _ => simp only [zeroE, shiftE, ex, Prod.mk.injEq]; omega
  | 3, _ => simp only [zeroE, shiftE, ex, Prod.mk.injEq]; omega
theorem cf_coefL {j : Nat} (hj : j < 4) (d : Int) (al : List Tm) (e : Ex) : cf (coefL j d al) e = if ex e j = 0 then cf al (shiftE j d e) else 0 := by
  induction al with
  | nil => simp [coefL, cf_nil]
  | cons p al ih =>
    have hs := shift_zero_ex hj (d := d) (e := e) (f := p.2)
    have h1 : coefL j d (p :: al) = if ex p.2 j = d then (p.1, zeroE j p.2) :: coefL j d al else coefL j d al := by
      unfold coefL
      rw [List.filter_cons]
      by_cases h : ex p.2 j = d
      · rw [if_pos (by simpa using h), if_pos h]; rfl
      · rw [if_neg (by simpa using h), if_neg h]
    rw [h1, cf_cons]
    by_cases h : ex p.2 j = d
    · rw [if_pos h, cf_cons, ih]
      by_cases h2 : ex e j = 0
      · rw [if_pos h2, if_pos h2]
        by_cases h3 : p.2 = shiftE j d e
        · rw [if_pos (hs.2 ⟨h2, h3⟩).1, if_pos h3]
        · rw [if_neg (fun h4 => h3 (hs.1 ⟨h4, h⟩).2), if_neg h3]
      · rw [if_neg h2, if_neg h2, if_neg (fun h4 => h2 (hs.1 ⟨h4, h⟩).1)]; omega
    · rw [if_neg h, ih]
      by_cases h2 : ex e j = 0
      · rw [if_pos h2, if_pos h2, if_neg (fun h3 => h (hs.2 ⟨h2, h3⟩).2)]; omega
      · rw [if_neg h2, if_neg h2]
/-- A power of a variable. -/
def powL (j : Nat) (k : Int) : List Tm := [(1, shiftE j k zE)]
theorem subE_shift {j : Nat} (hj : j < 4) (k : Int) (e : Ex) : subE e (shiftE j k zE) = shiftE j (-k) e := by
  match j, hj with
  | 0, _ => apply ex_ext <;> simp [subE, shiftE, zE] <;> omega
  | 1, _ => apply ex_ext <;> simp [subE, shiftE, zE] <;> omega
  | 2, _ => apply ex_ext <;> simp [subE, shiftE, zE] <;> omega
  | 3, _ => apply ex_ext <;> simp [subE, shiftE, zE] <;> omega
theorem powL_allV {j : Nat} (hj : j < 4) {k : Int} (hk : 0 ≤ k) : AllV (powL j k) := fun p hp => by
  rw [List.mem_singleton.1 hp]
  refine validE_iff.2 fun i hi => ?_
  rw [ex_shift j hj k zE i hi]
  have hz : ex zE i = 0 := by
    match i, hi with
    | 0, _ => rfl
    | 1, _ => rfl
    | 2, _ => rfl
    | 3, _ => rfl
  rw [hz]
  split <;> omega
theorem cf_mul_pow {j : Nat} (hj : j < 4) {k : Int} (hk : 0 ≤ k) {c : List Tm} (hc : AllV c) (e : Ex) : cf (mulL c (powL j k)) e = cf c (shiftE j (-k) e) := by
  rw [cf_mulL hc (powL_allV hj hk)]
  unfold powL
  rw [cf_prodL_cons_right, cf_prodL_nil, subE_shift hj]
  omega
theorem cf_mul_const (m : Int) {b : List Tm} (hb : AllV b) (e : Ex) : cf (mulL (constL m) b) e = m * cf b e := by
  have hV : AllV [(m, zE)] := fun p hp => by rw [List.mem_singleton.1 hp]; exact zE_valid
  have h2 : subE e zE = e := by apply ex_ext <;> simp [subE, zE]
  unfold constL
  rw [cf_mulL (AllV.nf _) hb, cf_prodL_left (cf_nfV hV), cf_prodL_cons, prodL_nil, cf_nil, h2]
  exact Int.add_zero _
theorem powL_zero {j : Nat} (hj : j < 4) : constL 1 = powL j 0 := by
  match j, hj with
  | 0, _ => decide
  | 1, _ => decide
  | 2, _ => decide
  | 3, _ => decide
theorem powL_canon {j : Nat} (hj : j < 4) {k : Int} (hk : 0 ≤ k) : Canon (powL j k) :=
  ⟨List.pairwise_singleton _ _, fun p hp => ⟨by rw [List.mem_singleton.1 hp]; exact Int.one_ne_zero, powL_allV hj hk p hp⟩⟩
theorem powL_succ {j : Nat} (hj : j < 4) {k : Int} (hk : 0 ≤ k) : mulL (powL j k) (varL (j + 1)) = powL j (k + 1) := by
  unfold mulL
  rw [mulp_var j hj (powL_canon hj hk)]
  unfold powL shiftL
  rw [List.map_singleton, shift_shift j hj]
/-- The terms of small degree. -/
def lowL (j : Nat) (k : Int) (al : List Tm) : List Tm := al.filter fun p => decide (ex p.2 j < k)
theorem cf_lowL (j : Nat) (k : Int) (al : List Tm) (e : Ex) : cf (lowL j k al) e = if ex e j < k then cf al e else 0 := by
  unfold lowL
  rw [cf_filterE (fun e => decide (ex e j < k))]
  by_cases h : ex e j < k
  · rw [if_pos (by simpa using h), if_pos h]
  · rw [if_neg (by simpa using h), if_neg h]
theorem lowL_canon {j : Nat} {k : Int} {al : List Tm} (h : Canon al) : Canon (lowL j k al) := ⟨h.1.filter _, fun p hp => h.2 p (List.mem_filter.1 hp).1⟩
theorem lowL_zero {j : Nat} (hj : j < 4) {al : List Tm} (h : AllV al) : lowL j 0 al = [] := by
  unfold lowL
  rw [List.filter_eq_nil_iff]
  intro p hp
  have := validE_iff.1 (h p hp) j hj
  simp; omega
theorem lowL_all {j E : Nat} (hj : j < 4) {al : List Tm} (h : AllE al E) {k : Int} (hk : (E : Int) < k) : lowL j k al = al := by
  unfold lowL
  rw [List.filter_eq_self]
  intro p hp
  have := h p hp j hj
  simp; omega
theorem coefL_allV {j : Nat} (hj : j < 4) {d : Int} {al : List Tm} (h : Canon al) : AllV (coefL j d al) := (coefL_canon hj h).allV
theorem ex_shift_self {j : Nat} (hj : j < 4) (k : Int) (e : Ex) : ex (shiftE j k e) j = ex e j + k := by
  rw [ex_shift j hj k e j hj, if_pos rfl]
theorem shift_back {j : Nat} (hj : j < 4) (k : Int) (e : Ex) : shiftE j k (shiftE j (-k) e) = e := by
  rw [shift_shift j hj, show -k + k = 0 by omega]
  match j, hj with
  | 0, _ => apply ex_ext <;> simp [shiftE]
  | 1, _ => apply ex_ext <;> simp [shiftE]
  | 2, _ => apply ex_ext <;> simp [shiftE]
  | 3, _ => apply ex_ext <;> simp [shiftE]
/-- One more coefficient. -/
theorem low_step {j : Nat} (hj : j < 4) {k : Int} (hk : 0 ≤ k) {a : List Tm} (ha : Canon a) : nf (lowL j k a ++ mulL (coefL j k a) (powL j k)) = lowL j (k + 1) a := by
  refine canon_unique (nf_canon _) (lowL_canon ha) fun e => ?_
  rw [cf_nfV ((lowL_canon ha).allV.append (AllV.mulL _ _)), cf_append, cf_mul_pow hj hk (coefL_allV hj ha), cf_coefL hj, ex_shift_self hj, cf_lowL, cf_lowL, shift_back hj]
  by_cases h1 : ex e j < k
  · rw [if_pos h1, if_neg (by omega), if_pos (by omega)]; omega
  · rw [if_neg h1]
    by_cases h2 : ex e j + -k = 0
    · rw [if_pos h2, if_pos (by omega)]; omega
    · rw [if_neg h2, if_neg (by omega)]; omega
theorem derL_allV {j : Nat} (hj : j < 4) {a : List Tm} (ha : AllV a) : AllV (derL j a) := fun p hp => by
  obtain ⟨q, hq, rfl⟩ := List.mem_map.1 hp
  have h1 := List.mem_filter.1 hq
  have h2 : 0 < ex q.2 j := by simpa using h1.2
  refine validE_iff.2 fun i hi => ?_
  show 0 ≤ ex (shiftE j (-1) q.2) i
  rw [ex_shift j hj (-1) q.2 i hi]
  have h3 := validE_iff.1 (ha q h1.1) i hi
  by_cases h4 : i = j
  · rw [if_pos h4, h4]; omega
  · rw [if_neg h4]; exact h3
theorem shift_down {j : Nat} (hj : j < 4) {e f : Ex} : shiftE j (-1) f = e ↔ f = shiftE j 1 e := by
  obtain ⟨a, b, c, x⟩ := e
  obtain ⟨a', b', c', x'⟩ := f
  match j, hj with
  | 0, _ => simp only [shiftE, Prod.mk.injEq]; omega
  | 1, _ => simp only [shiftE, Prod.mk.injEq]; omega
  | 2, _ => simp only [shiftE, Prod.mk.injEq]; omega
  | 3, _ => simp only [shiftE, Prod.mk.injEq]; omega
theorem cf_derL {j : Nat} (hj : j < 4) (a : List Tm) (e : Ex) : cf (derL j a) e = if 0 < ex e j + 1 then (ex e j + 1) * cf a (shiftE j 1 e) else 0 := by
  induction a with
  | nil => simp [derL, cf_nil]
  | cons p a ih =>
    have h1 : derL j (p :: a) = if 0 < ex p.2 j then (p.1 * ex p.2 j, shiftE j (-1) p.2) :: derL j a else derL j a := by
      unfold derL
      rw [List.filter_cons]
      by_cases h : 0 < ex p.2 j
      · rw [if_pos (by simpa using h), if_pos h]; rfl
      · rw [if_neg (by simpa using h), if_neg h]
    rw [h1, cf_cons]
    by_cases hp : p.2 = shiftE j 1 e
    · have hx : ex p.2 j = ex e j + 1 := by rw [hp, ex_shift_self hj]
      rw [if_pos hp, Int.mul_add]
      by_cases h : 0 < ex p.2 j
      · rw [if_pos h, cf_cons, if_pos ((shift_down hj).2 hp), ih, if_pos (by omega), if_pos (by omega), hx, Int.mul_comm p.1]
      · rw [if_neg h, ih, if_neg (by omega), if_neg (by omega)]
    · rw [if_neg hp, Int.zero_add]
      by_cases h : 0 < ex p.2 j
      · rw [if_pos h, cf_cons, if_neg (fun h2 => hp ((shift_down hj).1 h2)), ih]; omega
      · rw [if_neg h, ih]
/-- One more term of the derivative. -/
theorem slope_step {j : Nat} (hj : j < 4) {k : Int} (hk : 0 ≤ k) {a : List Tm} (ha : Canon a) :
    nf (lowL j k (nf (derL j a)) ++ mulL (mulL (constL (k + 1)) (coefL j (k + 1) a)) (powL j k)) = lowL j (k + 1) (nf (derL j a)) := by
  refine canon_unique (nf_canon _) (lowL_canon (nf_canon _)) fun e => ?_
  rw [cf_nfV ((lowL_canon (nf_canon _)).allV.append (AllV.mulL _ _)), cf_append, cf_mul_pow hj hk (AllV.mulL _ _), cf_mul_const _ (coefL_allV hj ha), cf_coefL hj, ex_shift_self hj, cf_lowL, cf_lowL, cf_nfV (derL_allV hj ha.allV), cf_derL hj, shift_shift j hj, show -k + (k + 1) = 1 by omega]
  by_cases h1 : ex e j < k
  · rw [if_pos h1, if_neg (show ¬ (ex e j + -k = 0) by omega), if_pos (show ex e j < k + 1 by omega)]; omega
  · rw [if_neg h1]
    by_cases h2 : ex e j + -k = 0
    · have h3 : ex e j = k := by omega
      rw [if_pos h2, if_pos (show ex e j < k + 1 by omega), if_pos (show 0 < ex e j + 1 by omega), h3]; omega
    · rw [if_neg h2, if_neg (show ¬ (ex e j < k + 1) by omega)]; omega

theorem fold_ge {j : Nat} (al : List Tm) : ∀ d0 : Int, d0 ≤ al.foldl (fun d p => max (max d 0) (ex p.2 j)) d0 ∧ ∀ p ∈ al, ex p.2 j ≤ al.foldl (fun d p => max (max d 0) (ex p.2 j)) d0 := by
  induction al with
  | nil => intro d0; exact ⟨Int.le_refl _, fun p hp => by cases hp⟩
  | cons q al ih =>
    intro d0
    obtain ⟨h1, h2⟩ := ih (max (max d0 0) (ex q.2 j))
    refine ⟨by rw [List.foldl_cons]; omega, fun p hp => ?_⟩
    rw [List.foldl_cons]
    rcases List.mem_cons.1 hp with rfl | hp
    · omega
    · exact h2 p hp
theorem fold_le {j : Nat} {d : Int} (h0 : 0 ≤ d) (al : List Tm) (h : ∀ p ∈ al, ex p.2 j ≤ d) : ∀ d0 : Int, d0 ≤ d → al.foldl (fun d p => max (max d 0) (ex p.2 j)) d0 ≤ d := by
  induction al with
  | nil => intro d0 hd; exact hd
  | cons q al ih =>
    intro d0 hd
    rw [List.foldl_cons]
    have h1 := h q (List.mem_cons_self ..)
    exact ih (fun p hp => h p (List.mem_cons_of_mem _ hp)) _ (by omega)
theorem degL_eq {j : Nat} {d : Int} (h0 : 0 ≤ d) {al : List Tm} (h : ∀ p ∈ al, ex p.2 j ≤ d) (hm : ∃ p ∈ al, ex p.2 j = d) : degL j al = d := by
  obtain ⟨p, hp, he⟩ := hm
  have h1 := (fold_ge (j := j) al (-1)).2 p hp
  have h2 := fold_le h0 al h (-1) (by omega)
  unfold degL
  omega
theorem deg_coef {j : Nat} (hj : j < 4) {d : Int} {al : List Tm} (h : coefL j d al ≠ []) : degL j (coefL j d al) = 0 := by
  have hz : ∀ p ∈ coefL j d al, ex p.2 j = 0 := fun p hp => by
    obtain ⟨q, hq, rfl⟩ := List.mem_map.1 hp
    show ex (zeroE j q.2) j = 0
    match j, hj with
    | 0, _ => rfl
    | 1, _ => rfl
    | 2, _ => rfl
    | 3, _ => rfl
  obtain ⟨p, hp⟩ := List.exists_mem_of_ne_nil _ h
  exact degL_eq (Int.le_refl 0) (fun q hq => by rw [hz q hq]; exact Int.le_refl 0) ⟨p, hp, hz p hp⟩
theorem coefL_nil_iff {j : Nat} {d : Int} {al : List Tm} : coefL j d al = [] ↔ ∀ p ∈ al, ex p.2 j ≠ d := by
  unfold coefL
  rw [List.map_eq_nil_iff, List.filter_eq_nil_iff]
  constructor
  · intro h p hp; have := h p hp; simpa using this
  · intro h p hp; have := h p hp; simpa using this
theorem deg_low_some {j : Nat} {k : Int} (hk : 0 ≤ k) {al : List Tm} (h : coefL j k al ≠ []) : degL j (lowL j (k + 1) al) = k := by
  have h1 : ∃ p ∈ al, ex p.2 j = k := by
    apply Classical.byContradiction
    intro hn
    exact h (coefL_nil_iff.2 fun p hp he => hn ⟨p, hp, he⟩)
  obtain ⟨p, hp, he⟩ := h1
  refine degL_eq hk (fun q hq => ?_) ⟨p, List.mem_filter.2 ⟨hp, by simp; omega⟩, he⟩
  have := (List.mem_filter.1 hq).2
  simp at this
  omega
theorem deg_low_none {j : Nat} {k : Int} {al : List Tm} (h : coefL j k al = []) : lowL j (k + 1) al = lowL j k al := by
  unfold lowL
  refine List.filter_congr fun p hp => ?_
  have := coefL_nil_iff.1 h p hp
  rw [decide_eq_decide]
  omega
theorem degL_pos {j : Nat} {al : List Tm} : 0 < degL j al ↔ ∃ p ∈ al, 0 < ex p.2 j := by
  constructor
  · intro h
    rcases degL_mem (j := j) (al := al) (d0 := -1) with h1 | h1 | ⟨p, hp, h1⟩
    · unfold degL at h; omega
    · unfold degL at h; omega
    · exact ⟨p, hp, by unfold degL at h; omega⟩
  · intro ⟨p, hp, h⟩
    have h1 := (fold_ge (j := j) al (-1)).2 p hp
    unfold degL
    omega
/-- The highest of the first levels with a positive degree. -/
def topK (al : List Tm) : Nat → Nat
  | 0 => 0
  | k + 1 => if 0 < degL k al then k + 1 else topK al k
theorem topK_le (al : List Tm) (m : Nat) : topK al m ≤ m := by
  induction m with
  | zero => exact Nat.le_refl _
  | succ m ih => unfold topK; split <;> omega
theorem topK_iff (al : List Tm) (k : Nat) : ∀ m, k + 1 ≤ topK al m ↔ ∃ i, k ≤ i ∧ i < m ∧ 0 < degL i al := by
  intro m
  induction m with
  | zero => exact ⟨fun h => by unfold topK at h; omega, fun ⟨i, _, h, _⟩ => by omega⟩
  | succ m ih =>
    unfold topK
    by_cases h : 0 < degL m al
    · rw [if_pos h]
      constructor
      · intro hk; exact ⟨m, by omega, by omega, h⟩
      · intro ⟨i, h1, h2, _⟩; omega
    · rw [if_neg h, ih]
      constructor
      · intro ⟨i, h1, h2, h3⟩; exact ⟨i, h1, by omega, h3⟩
      · intro ⟨i, h1, h2, h3⟩
        refine ⟨i, h1, ?_, h3⟩
        rcases Nat.lt_or_ge i m with h4 | h4
        · exact h4
        · have : i = m := by omega
          subst this; exact absurd h3 h
theorem levE_iff (e : Ex) (m k : Nat) : ∀ n, k + 1 ≤ levE e m n ↔ k + 1 ≤ m ∨ ∃ i, k ≤ i ∧ i < n ∧ 0 < ex e i := by
  intro n
  induction n with
  | zero =>
    unfold levE
    exact ⟨fun h => .inl h, fun h => h.elim id fun ⟨i, _, h, _⟩ => by omega⟩
  | succ n ih =>
    unfold levE
    by_cases h : 0 < ex e n
    · rw [if_pos h]
      constructor
      · intro hk
        by_cases h1 : k ≤ n
        · exact .inr ⟨n, h1, by omega, h⟩
        · have h2 : k + 1 ≤ levE e m n := by omega
          rcases ih.1 h2 with h3 | ⟨i, h3, h4, h5⟩
          · exact .inl h3
          · exact .inr ⟨i, h3, by omega, h5⟩
      · intro hk
        rcases hk with h1 | ⟨i, h1, h2, h3⟩
        · have := ih.2 (.inl h1); omega
        · omega
    · rw [if_neg h, ih]
      constructor
      · rintro (h1 | ⟨i, h1, h2, h3⟩)
        · exact .inl h1
        · exact .inr ⟨i, h1, by omega, h3⟩
      · rintro (h1 | ⟨i, h1, h2, h3⟩)
        · exact .inl h1
        · refine .inr ⟨i, h1, ?_, h3⟩
          rcases Nat.lt_or_ge i n with h4 | h4
          · exact h4
          · have : i = n := by omega
            subst this; exact absurd h3 h
theorem levL_iff (k : Nat) (al : List Tm) : ∀ m, k + 1 ≤ al.foldl (fun m p => levE p.2 m 4) m ↔ k + 1 ≤ m ∨ ∃ i, k ≤ i ∧ i < 4 ∧ ∃ p ∈ al, 0 < ex p.2 i := by
  induction al with
  | nil =>
    intro m
    exact ⟨fun h => .inl h, fun h => h.elim id fun ⟨_, _, _, p, hp, _⟩ => by cases hp⟩
  | cons q al ih =>
    intro m
    rw [List.foldl_cons, ih, levE_iff]
    constructor
    · rintro ((h | ⟨i, h1, h2, h3⟩) | ⟨i, h1, h2, p, hp, h3⟩)
      · exact .inl h
      · exact .inr ⟨i, h1, h2, q, List.mem_cons_self .., h3⟩
      · exact .inr ⟨i, h1, h2, p, List.mem_cons_of_mem _ hp, h3⟩
    · rintro (h | ⟨i, h1, h2, p, hp, h3⟩)
      · exact .inl (.inl h)
      · rcases List.mem_cons.1 hp with rfl | hp
        · exact .inl (.inr ⟨i, h1, h2, h3⟩)
        · exact .inr ⟨i, h1, h2, p, hp, h3⟩
theorem levL_top (al : List Tm) : levL al = topK al 4 := by
  have key : ∀ k, k + 1 ≤ levL al ↔ k + 1 ≤ topK al 4 := fun k => by
    rw [topK_iff]
    unfold levL
    rw [levL_iff]
    constructor
    · rintro (h | ⟨i, h1, h2, p, hp, h3⟩)
      · omega
      · exact ⟨i, h1, h2, degL_pos.2 ⟨p, hp, h3⟩⟩
    · rintro ⟨i, h1, h2, h3⟩
      obtain ⟨p, hp, h4⟩ := degL_pos.1 h3
      exact .inr ⟨i, h1, h2, p, hp, h4⟩
  have k0 := key (levL al)
  have k1 := key (topK al 4)
  rcases Nat.lt_trichotomy (levL al) (topK al 4) with h | h | h
  · have := (key (levL al)).2 h; omega
  · exact h
  · have := (key (topK al 4)).1 h; omega
end Go.Proofs.YtnknidfpkmnncaaGreat
/- checkpoly.Derivative. -/
namespace Go.Proofs.YtnknidfpkmnncaaGreat
open Go.RowKit

theorem TBox.decJ {w : World} {g : Nat} {b : Bool} {A : Option Addr} {n c : Nat} {e : Ex} (h : TBox w g b A n c e) (j : Nat) (hj : j < 4) : TBox (w.setCell ⟨g, 2 + j, none⟩ (.int .i64 (ex e j - 1))) g b A n c (shiftE j (-1) e) := by
  match j, hj with
  | 0, _ => exact h.set0 (e.1 - 1)
  | 1, _ => exact h.set1 (e.2.1 - 1)
  | 2, _ => exact h.set2 (e.2.2.1 - 1)
  | 3, _ => exact h.set3 (e.2.2.2 - 1)

set_option maxRecDepth 100000 in
set_option maxHeartbeats 4000000 in
theorem deriv_any (B j E : Nat) (A : Option Addr) (n c : Nat) (al : List Tm) (w : World) (hB : B ≤ w.heap.size) (h : PolyW B w A n c al) (hn : n < sortLim) (hl : l1 al < big) (hj : j < 4) (hE : AllE al E) (hE2 : E ≤ 1073741824) (hle : l1 al * E < big) :
    Calls Tryz.prog 12 #[.slice A n c, .int .i64 ((j : Int) + 1)] w (PolyP B (nf (derL j (nf al))) w) := by
  have hnm : n ≤ 1073741824 := by unfold sortLim at hn; omega
  obtain ⟨i0, hi0, hz0, hz1, hz2⟩ := info_parts terminfo
  have HN := Lib.hid (normalp_any B A n c al w hB h hn hl)
  have HL := Lib.hid (show (nf al).length ≤ n by have h4 := length_nf al; have h5 := h.len; omega)
  have HLL := Lib.hid (Nat.lt_of_le_of_lt (l1_nf al) hl)
  have HEE := Lib.hid hE.nf
  have HVV := Lib.hid (AllV.nf al)
  have HDL := Lib.hid (Nat.lt_of_le_of_lt (Nat.le_trans (derL_l1 hj hE.nf) (Nat.mul_le_mul_right E (l1_nf al))) hle)
  generalize nf al = a at *
  clear h hl hE hle
  have hj0 : (0 : Int) ≤ (j : Int) := by omega
  have hj1 : (j : Int) < 4 := by omega
  go_enter Tryz.func12, Tryz.ntmps12
  go_wp2_with fail
  refine HN.out.mono ?_
  rintro e w1 ⟨A', n', c', rfl, h1, hb1⟩
  have hl1 : n' ≤ n := by have h3 := h1.len; have := HL.out; omega
  have hc1 := h1.cap
  have hws := hb1.size
  have hB1 : B ≤ w1.heap.size := Nat.le_trans hB hws
  go_wp2_with fail
  go_loopw [5, 18] (fun v i wr => ∃ (k : Nat) (L1 : List TV), k ≤ n' ∧ i = .int .i64 k ∧ M1 B w1 (derL j (a.take k)) v L1 wr) (fun _ i _ => n' - (intOf i).toNat)
  case atStart => exact ⟨0, [], Nat.zero_le _, rfl, by simpa [derL] using M1.start B w1⟩
  case round =>
    obtain ⟨W0, rfl⟩ : ∃ y, y = wr := ⟨_, rfl⟩
    obtain ⟨k, L1, hk, rfl, hM⟩ := hrel
    by_cases hkn : k < n'
    · obtain ⟨b, off, rfl, hs1, HT⟩ := h1.term (by omega)
      obtain ⟨t, p, hp, hte, hcf, hh2, hh4⟩ := HT k hkn
      have hb := hM.below
      obtain ⟨c0, c1⟩ := held2_below hh2 hb hs1
      obtain ⟨d0, d1, d2, d3⟩ := held4_below hh4 hb hs1
      have hcf2 := hcf.below hb (Nat.le_refl _)
      have HP := Lib.hid hp
      have i0' : (0 : Int) ≤ (k : Int) := by omega
      have i1 : (k : Int) < (n' : Int) := by omega
      have hL1 : L1.length ≤ 1073741824 := by
        have h3 := hM.reps.length
        have h5 : (derL j (a.take k)).length ≤ k := Nat.le_trans (derL_len j (a.take k)) (List.length_take_le _ _)
        omega
      have HTE := Lib.hid hte
      have hxb : 0 ≤ ex t.e j ∧ ex t.e j ≤ 1073741824 := by
        rw [hte]
        have h8 := HEE.out p (List.mem_of_getElem? hp) j hj
        have h9 := validE_iff.1 (HVV.out p (List.mem_of_getElem? hp)) j hj
        omega
      have HPB := Lib.hid (show p.1.natAbs < big from Nat.lt_of_le_of_lt (l1_mem (List.mem_of_getElem? hp)) HLL.out)
      clear HT hp hte hcf hh2 hh4
      have hgW : w1.heap.size ≤ W0.heap.size := hb.size
      have hal : Below W0.heap.size W0 (W0.alloc (.cells #[.bool t.neg, .slice t.A t.n t.c, .int .i64 t.e.1, .int .i64 t.e.2.1, .int .i64 t.e.2.2.1, .int .i64 t.e.2.2.2] 57)) := (Below.refl _ _).alloc (Nat.le_refl _) _
      have hTB : TBox (W0.alloc (.cells #[.bool t.neg, .slice t.A t.n t.c, .int .i64 t.e.1, .int .i64 t.e.2.1, .int .i64 t.e.2.2.1, .int .i64 t.e.2.2.2] 57)) W0.heap.size t.neg t.A t.n t.c t.e := heap_alloc_new W0 _
      have hcf3 := hcf2.below hal (Nat.le_refl _)
      obtain ⟨W2, hW2⟩ : ∃ y, y = (W0.alloc (.cells #[.bool t.neg, .slice t.A t.n t.c, .int .i64 t.e.1, .int .i64 t.e.2.1, .int .i64 t.e.2.2.1, .int .i64 t.e.2.2.2] 57)) := ⟨_, rfl⟩
      obtain ⟨g, hg⟩ : ∃ g, g = W0.heap.size := ⟨_, rfl⟩
      have hgW2 : g < W2.heap.size := by rw [hW2, hg]; simp
      rw [← hW2, ← hg] at hTB
      rw [← hW2] at hcf3 hal
      have HGW := Lib.hid (show w1.heap.size ≤ g ∧ W0.heap.size ≤ g from ⟨by omega, by omega⟩)
      go_upto_region 7 with (fail)
      rw [← hW2, ← hg]
      clear hW2 hg hcf2 c0 c1 d0 d1 d2 d3 hb
      have hxj := hTB.exCell j hj
      have hwrap : IntKind.i64.wrap (j : Int) = (j : Int) := IntWalk.i64_in _ (by omega)
      obtain ⟨x, hx⟩ : ∃ x, x = ex t.e j := ⟨_, rfl⟩
      rw [← hx] at hxj hxb
      have HX := Lib.hid hx
      clear hx
      go_upto_region 8 with (fail)
      clear hxj
      have hTD : TBox W2.drew g t.neg t.A t.n t.c t.e := hTB
      obtain ⟨r0, r1, _, _, _, _⟩ := hTD.six
      have hfz := hTD.frozen
      have hdt := (hcf3.2.below ((Below.refl _ _).drew) (Nat.le_refl _) : Dig B W2.drew t.A t.n t.c (digs p.1.natAbs))
      have hBd : B ≤ W2.drew.heap.size := by show B ≤ W2.heap.size; have := hal.size; omega
      have hgd : g < W2.drew.heap.size := hgW2
      have HNEG := Lib.hid hcf3.1
      go_region_with (first
        | (go_at_call 35; ((with_reducible refine (iof_any B x _ hBd (by omega) (by omega)).mono ?_); rintro e3 w3 ⟨A3, n3, c3, rfl, h3, hb3⟩; have hT3 := hTD.below hb3; obtain ⟨s0, s1, _, _, _, _⟩ := hT3.six; have hf3 := hT3.frozen; have hd3 := hdt.below hb3 (Nat.le_refl _); have hB3 := Nat.le_trans hBd hb3.size))
        | (go_at_call 36; (rw [HNEG.out]; (with_reducible refine (imulC_any B p.1 x t.A A3 t.n t.c n3 c3 _ hB3 hd3 h3 HPB.out (lt_big4 (by omega))).mono ?_); rintro e4 w4 ⟨A4, n4, c4, rfl, h4, hb4⟩; have hT4 := hT3.below hb4; obtain ⟨u0, u1, _, _, _, _⟩ := hT4.six; have hf4 := hT4.frozen)))
      all_goals
        have hne : g < w4.heap.size := hT4.ty.lt
        have hbw := (hal.trans (((Below.drew (Below.refl W2.heap.size W2)).trans (hb3.mono (Nat.le_refl _))).mono hal.size)).trans (hb4.mono (Nat.le_trans hal.size (hb3.size : W2.heap.size ≤ w3.heap.size)))
        have hT5 := hT4.coef (b' := decide (p.1 * x < 0)) (A' := A4) (n' := n4) (c' := c4)
        have hd5 : Dig B ((w4.setCell ⟨g, 0, none⟩ (.bool (decide (p.1 * x < 0)))).setCell ⟨g, 1, none⟩ (.slice A4 n4 c4)) A4 n4 c4 (digs (p.1 * x).natAbs) := (h4.setCell (p := ⟨g, 0, none⟩) (by have := HGW.out; show B ≤ g; omega) hT4.ty (by decide) _).setCell (p := ⟨g, 1, none⟩) (by have := HGW.out; show B ≤ g; omega) (hT4.ty.setCell _ _) (by decide) _
        have hb5 : Below W0.heap.size W0 ((w4.setCell ⟨g, 0, none⟩ (.bool (decide (p.1 * x < 0)))).setCell ⟨g, 1, none⟩ (.slice A4 n4 c4)) := (hbw.setCell HGW.out.2 _).setCell HGW.out.2 _
        have hcd := Lib.hid (show derL j (a.take (k + 1)) = if 0 < x then derL j (a.take k) ++ [(p.1 * x, shiftE j (-1) t.e)] else derL j (a.take k) by rw [derL_step HP.out, HX.out, HTE.out])
        generalize p.1 * x = y at *
        obtain ⟨w5, hw5⟩ : ∃ w5, w5 = ((w4.setCell ⟨g, 0, none⟩ (.bool (decide (y < 0)))).setCell ⟨g, 1, none⟩ (.slice A4 n4 c4)) := ⟨_, rfl⟩
        rw [← hw5] at hT5 hd5 hb5 ⊢
        clear hw5 hbw hTB hTD hT3 hT4 hal h3 h4 hb3 hb4 hcf3 hdt hd3 hf3 hf4 hfz hgW2 hgd hBd
        have hxj := hT5.exCell j hj
        rw [← HX.out] at hxj
        have hf5 := hT5.frozen
        have hT6 := hT5.decJ j hj
        rw [← HX.out] at hT6
        have hw64 : wrap64 (x - 1) = x - 1 := by unfold wrap64; omega
        have hd6 := hd5.setCell (p := ⟨g, 2 + j, none⟩) (by have := HGW.out; show B ≤ g; omega) hT5.ty (by decide) (.int .i64 (x - 1))
        have hb6 := hb5.setCell (p := ⟨g, 2 + j, none⟩) HGW.out.2 (.int .i64 (x - 1))
        clear hb5 hd5
        go_upto_region 10 with (fail)
        obtain ⟨W3, hW3⟩ : ∃ W3, W3 = w5.setCell ⟨g, 2 + j, none⟩ (.int .i64 (x - 1)) := ⟨_, rfl⟩
        rw [← hW3] at hT6 hd6 hb6 ⊢
        clear hW3 hxj hf5 hT5
        have hM6 := hM.later hb6
        by_cases hx0 : 0 < x
        · have hx1 : decide (0 < x) = true := by rw [decide_eq_true_eq]; exact hx0
          obtain ⟨r0, r1, r2, r3, r4, r5⟩ := hT6.six
          have hal3 : Below W3.heap.size W3 (W3.alloc (.cells #[.bool (decide (y < 0)), .slice A4 n4 c4, .int .i64 (shiftE j (-1) t.e).1, .int .i64 (shiftE j (-1) t.e).2.1, .int .i64 (shiftE j (-1) t.e).2.2.1, .int .i64 (shiftE j (-1) t.e).2.2.2] 57)) := (Below.refl _ _).alloc (Nat.le_refl _) _
          have hM7 := hM6.later hal3
          have hd7 := hd6.below hal3 (Nat.le_refl _)
          have hw13 : w1.heap.size ≤ W3.heap.size := hM6.below.size
          have HCD := Lib.hid (show derL j (a.take (k + 1)) = derL j (a.take k) ++ [(y, shiftE j (-1) t.e)] by rw [hcd.out, if_pos hx0])
          clear hM hM6 hT6 hd6 hb6 hcd
          go_wp2_with (at_builtin; refine wpList_append_lies _ rfl _ _ _ rfl w1.heap.size 57 i0 _ 6 64 Tryz.underlying27 hi0 hz0 hz1 hz2 rfl (by omega) u5 L1.length (flat L1) rfl hM7.own ⟨W3.heap.size, 0, none⟩ 1 1 (flat [⟨decide (y < 0), A4, n4, c4, shiftE j (-1) t.e⟩]) rfl rfl (World.news_of_block (cs := #[.bool (decide (y < 0)), .slice A4 n4 c4, .int .i64 (shiftE j (-1) t.e).1, .int .i64 (shiftE j (-1) t.e).2.1, .int .i64 (shiftE j (-1) t.e).2.2.1, .int .i64 (shiftE j (-1) t.e).2.2.2]) (t := 57) (fr := (0, 0)) (heap_alloc_new W3 _)) (flat_one _) (by omega) (by simp only [maxLen]; omega) (by omega) (by simp; omega) (W3.heap.size + 1) (by simp) ?_; intro gg cap w8 hown3 hgrow hat hlt3)
          have hM8 := hM7.push (p := (y, shiftE j (-1) t.e)) (t := ⟨decide (y < 0), A4, n4, c4, shiftE j (-1) t.e⟩) rfl hown3 hgrow ⟨rfl, hd7⟩ (by omega)
          clear hM7 hd7 hown3 hgrow hat
          go_wp2
          go_roundw
          case rel => exact ⟨k + 1, _, by omega, by go_num, by rw [HCD.out]; exact hM8⟩
          case measure => simp [intOf]; omega
        · have hx1 : decide (0 < x) = false := by rw [decide_eq_false_iff_not]; exact hx0
          have HCD := Lib.hid (show derL j (a.take (k + 1)) = derL j (a.take k) by rw [hcd.out, if_neg hx0])
          clear hM hT6 hd6 hb6 hcd
          go_wp2
          go_roundw
          case rel => exact ⟨k + 1, L1, by omega, by go_num, by rw [HCD.out]; exact hM6⟩
          case measure => simp [intOf]; omega
    · obtain rfl : k = n' := by omega
      have hM9 := hM
      rw [List.take_of_length_le (by rw [h1.len]; exact Nat.le_refl _)] at hM9
      obtain ⟨A5, c5, rfl⟩ := own_slice hM9.own
      have hP5 : PolyC B W0 A5 L1.length c5 (derL j a) := ⟨L1, Row.of_own hM9.own, hM9.reps⟩
      have hL5 : L1.length < sortLim := by
        have h8 := hP5.len
        have h9 := derL_len j a
        have := HL.out
        omega
      have hbb := hb1.trans (hM9.below.mono hws)
      have HQ := Lib.hid (normalp_any B A5 L1.length c5 (derL j a) W0 (Nat.le_trans hB hbb.size) (hP5.wide HDL.out) hL5 HDL.out)
      clear hM9 hM hP5
      go_wp2_with fail
      refine HQ.out.mono ?_
      rintro e w9 ⟨A9, n9, c9, rfl, h9, hb9⟩
      go_wp2
      go_ret
      exact ⟨_, _, _, rfl, h9, hbb.trans (hb9.mono hbb.size)⟩
end Go.Proofs.YtnknidfpkmnncaaGreat
