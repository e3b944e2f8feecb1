/- CheckpolySums: the law's walk. -/
import Derived.Test.YtnknidfpkmnncaaF7
import Derived.Test.YtnknidfpkmnncaaG2
namespace Go.Proofs.Ytnknidfpkmnncaa
open Go.RowKit

/-- Four zero cells, not frozen. -/
abbrev Zero4 (w' : World) (H : Nat) : Prop :=
  w'.cell? ⟨H, 0, none⟩ = some (.int .i64 0) ∧ w'.cell? ⟨H, 1, none⟩ = some (.int .i64 0) ∧ w'.cell? ⟨H, 2, none⟩ = some (.int .i64 0) ∧ w'.cell? ⟨H, 3, none⟩ = some (.int .i64 0) ∧
  w'.frozen? ⟨H, 0, none⟩ = false ∧ w'.frozen? ⟨H, 1, none⟩ = false ∧ w'.frozen? ⟨H, 2, none⟩ = false ∧ w'.frozen? ⟨H, 3, none⟩ = false
def ZBox (w : World) (g : Nat) : Prop := w.heap[g]? = some (.cells #[.int .i64 0, .int .i64 0, .int .i64 0, .int .i64 0] 34 (0, 0))
theorem ZBox.zero {w : World} {g : Nat} (h : ZBox w g) : Zero4 w g := by
  unfold ZBox at h
  have hc : ∀ k, w.cell? ⟨g, k, none⟩ = (#[.int .i64 0, .int .i64 0, .int .i64 0, .int .i64 0] : Array Value)[k]? := fun k => cell_of_row w g k _ _ _ h
  have hf : ∀ k, w.frozen? ⟨g, k, none⟩ = false := fun k => by simp [World.frozen?, h]
  exact ⟨hc 0, hc 1, hc 2, hc 3, hf 0, hf 1, hf 2, hf 3⟩
theorem ZBox.below {w w' : World} {g : Nat} (h : ZBox w g) (hb : Below w.heap.size w w') : ZBox w' g := (hb.block g (heap_lt h)).trans h
theorem ZBox.new (w : World) : ZBox (w.alloc (.cells #[.int .i64 0, .int .i64 0, .int .i64 0, .int .i64 0] 34)) w.heap.size := heap_alloc_new w _
/-- The box of four integers. -/
def XBox (w : World) (g : Nat) (x : Ex) : Prop := w.heap[g]? = some (.cells #[.int .i64 x.1, .int .i64 x.2.1, .int .i64 x.2.2.1, .int .i64 x.2.2.2] 34 (0, 0))
theorem ZBox.store {w : World} {g : Nat} (h : ZBox w g) (x : Ex) : XBox ((((w.setCell ⟨g, 0, none⟩ (.int .i64 x.1)).setCell ⟨g, 1, none⟩ (.int .i64 x.2.1)).setCell ⟨g, 2, none⟩ (.int .i64 x.2.2.1)).setCell ⟨g, 3, none⟩ (.int .i64 x.2.2.2)) g x := by
  unfold ZBox at h
  unfold XBox
  simp [World.setCell, Array.getElem?_modify, h]
theorem XBox.below {w w' : World} {g : Nat} {x : Ex} (h : XBox w g x) (hb : Below w.heap.size w w') : XBox w' g x := (hb.block g (heap_lt h)).trans h
abbrev HeldX (w' : World) (g : Nat) (x : Ex) : Prop :=
  w'.cell? ⟨g, 0, none⟩ = some (.int .i64 x.1) ∧ w'.cell? ⟨g, 1, none⟩ = some (.int .i64 x.2.1) ∧ w'.cell? ⟨g, 2, none⟩ = some (.int .i64 x.2.2.1) ∧ w'.cell? ⟨g, 3, none⟩ = some (.int .i64 x.2.2.2)
theorem XBox.held {w : World} {g : Nat} {x : Ex} (h : XBox w g x) : HeldX w g x := by
  unfold XBox at h
  have hc : ∀ k, w.cell? ⟨g, k, none⟩ = (#[.int .i64 x.1, .int .i64 x.2.1, .int .i64 x.2.2.1, .int .i64 x.2.2.2] : Array Value)[k]? := fun k => cell_of_row w g k _ _ _ h
  exact ⟨hc 0, hc 1, hc 2, hc 3⟩
theorem PolyC.setFar {B : Nat} {w : World} {A : Option Addr} {n c : Nat} {al : List Tm} (h : PolyC B w A n c al) {g : Nat} (hB : B ≤ g) (ht : Ty w g 34) (i : Nat) (v : Value) : PolyC B (w.setCell ⟨g, i, none⟩ v) A n c al := by
  obtain ⟨L, h⟩ := h
  exact ⟨L, h.row.setCell (by omega) (p := ⟨g, i, none⟩) hB ht (by decide) v, h.reps.mono fun t z _ hr => ⟨hr.1, hr.2.setCell (p := ⟨g, i, none⟩) hB ht (by decide) v⟩⟩
theorem ZBox.ty {w : World} {g : Nat} (h : ZBox w g) : Ty w g 34 := ⟨_, _, h⟩
theorem PolyC.store4 {B : Nat} {w : World} {A : Option Addr} {n c : Nat} {al : List Tm} (h : PolyC B w A n c al) {g : Nat} (hB : B ≤ g) (hz : ZBox w g) (v0 v1 v2 v3 : Value) :
    PolyC B ((((w.setCell ⟨g, 0, none⟩ v0).setCell ⟨g, 1, none⟩ v1).setCell ⟨g, 2, none⟩ v2).setCell ⟨g, 3, none⟩ v3) A n c al := by
  have t0 := hz.ty
  have t1 := t0.setCell ⟨g, 0, none⟩ v0
  have t2 := t1.setCell ⟨g, 1, none⟩ v1
  have t3 := t2.setCell ⟨g, 2, none⟩ v2
  exact (((h.setFar hB t0 0 v0).setFar hB t1 1 v1).setFar hB t2 2 v2).setFar hB t3 3 v3

/-- What the law's first statement leaves. -/
def SumsCut (B : Nat) (W : World) (x : Ex) (L L2 : List Tm) (v7 v8 v9 : Value) (wx : World) : Prop :=
  ∃ A1 n1 c1 A2 n2 c2 g, v7 = .slice A1 n1 c1 ∧ v8 = .slice A2 n2 c2 ∧ v9 = .pointer (some ⟨g, 0, none⟩) ∧ PolyC B wx A1 n1 c1 L ∧ PolyC B wx A2 n2 c2 L2 ∧ XBox wx g x ∧ Below W.heap.size W wx
theorem SumsCut.mk {B : Nat} {W w : World} {x : Ex} {L L2 : List Tm} {A1 A2 : Option Addr} {n1 c1 n2 c2 g : Nat} (h1 : PolyC B w A1 n1 c1 L) (h2 : PolyC B w A2 n2 c2 L2) (hz : ZBox w g) (hb : Below W.heap.size W w) (hg : W.heap.size ≤ g) (hB : B ≤ W.heap.size) :
    SumsCut B W x L L2 (.slice A1 n1 c1) (.slice A2 n2 c2) (.pointer (some ⟨g, 0, none⟩)) ((((w.setCell ⟨g, 0, none⟩ (.int .i64 x.1)).setCell ⟨g, 1, none⟩ (.int .i64 x.2.1)).setCell ⟨g, 2, none⟩ (.int .i64 x.2.2.1)).setCell ⟨g, 3, none⟩ (.int .i64 x.2.2.2)) :=
  ⟨A1, n1, c1, A2, n2, c2, g, rfl, rfl, rfl, h1.store4 (by omega) hz _ _ _ _, h2.store4 (by omega) hz _ _ _ _, hz.store x, (((hb.setCell hg _).setCell hg _).setCell hg _).setCell hg _⟩

theorem few6 (B : Nat) (A : Option Addr) (n c : Nat) (L : List Mono) (w : World) (h : MonoR B w A n c L) (hn : n ≤ 9223372036854775807) :
    Calls Try.prog 13 #[.slice A n c, .int .i64 6, .int .u8 3] w (FewP n 6 3 L w) :=
  few_any B A n c 6 3 L w h hn (by omega) (by omega) (by omega)
/-- The element k of the law's two lists. -/
def SumsAt (B : Nat) (x : Ex) (gl gn k : Nat) (wr : World) : Prop :=
  ∃ A n c al z, wr.cell? ⟨gl, k, none⟩ = some (.slice A n c) ∧ wr.cell? ⟨gn, k, none⟩ = some (.int .i64 z) ∧ PolyC B wr A n c al ∧ n ≤ 12 ∧ Canon al ∧ l1 al ≤ 1536 ∧ AllE al 3 ∧ ev x al = z ∧ -4611686018427387904 ≤ z ∧ z ≤ 4611686018427387904
theorem SumsAt.below {B : Nat} {x : Ex} {gl gn k : Nat} {w w' : World} (h : SumsAt B x gl gn k w) (hb : Below w.heap.size w w') : SumsAt B x gl gn k w' := by
  obtain ⟨A, n, c, al, z, h1, h2, h3, h4⟩ := h
  have l1 := World.block_lt_of_cell? w _ h1
  have l2 := World.block_lt_of_cell? w _ h2
  exact ⟨A, n, c, al, z, (hb.cell (p := ⟨gl, k, none⟩) l1).trans h1, (hb.cell (p := ⟨gn, k, none⟩) l2).trans h2, h3.below hb (Nat.le_refl _), h4⟩
end Go.Proofs.Ytnknidfpkmnncaa
