/- Words for memory: a slice that reads as a list of cells, old or in a block of its element type; what keeps it. -/
import Derived.Test.YtnknidfpkmnncaaProg
import Derived.Test.YtnknidfpkmnncaaN
import Derived.Below
import Derived.WalkKit
import Derived.KernelRfl
import Derived.Lib.Hide
import Derived.Deep.QuietTactic
import Derived.BigQuiet
import Derived.Laws.OwnMore
import Derived.Deep.AppendLies
import Derived.Deep.Draws
import Derived.Maps.AppendAt
import Derived.Laws.Rows
import Derived.Deep.DeepCutAuto
import Derived.Deep.CutBlock
import Derived.Deep.RegionHeld3
import Derived.Deep.LoopGhost
namespace Go.Proofs.Ytnknidfpkmnncaa
open Go.RowKit

theorem block_of_add (a : Addr) (n : Nat) : (a.add n).block = a.block := by unfold Addr.add; split <;> rfl
theorem add_of_add (a : Addr) (i j : Nat) : (a.add i).add j = a.add (i + j) := by
  unfold Addr.add
  by_cases hi : i = 0 <;> by_cases hj : j = 0 <;> simp [hi, hj, Nat.add_assoc]
theorem add_zero (a : Addr) : a.add 0 = a := by unfold Addr.add; simp

/-- The slice value .slice A n c of elements of type T and of z cells reads as the cells cs; its row is older than block B, or a block of elements of type T. -/
structure Row (B : Nat) (T : TypeId) (w : World) (A : Option Addr) (n c z : Nat) (cs : List Value) : Prop where
  len : cs.length = n * z
  cap : n ≤ c
  bd : c ≤ 9223372036854775807
  cell : 0 < n → ∃ ad, A = some ad ∧ (ad.block < B ∨ ∃ cur, w.heap[ad.block]? = some (.cells cur T (0, 0))) ∧ ∀ k u, cs[k]? = some u → w.cell? (ad.add k) = some u

section
variable {B T : Nat} {w w' : World} {A : Option Addr} {n c z : Nat} {cs : List Value}
theorem Row.nil : Row B T w none 0 0 z [] := ⟨by simp, Nat.le_refl _, by omega, fun h => absurd h (by omega)⟩
theorem Row.keep (h : Row B T w A n c z cs) (hk : ∀ ad, A = some ad → 0 < n → (ad.block < w.heap.size) → (ad.block < B ∨ ∃ cur, w.heap[ad.block]? = some (.cells cur T (0, 0))) → w'.heap[ad.block]? = w.heap[ad.block]?) (hz : 0 < z) : Row B T w' A n c z cs :=
  ⟨h.len, h.cap, h.bd, fun hn => by
    obtain ⟨ad, e, ht, hc⟩ := h.cell hn
    have hl : 0 < cs.length := by rw [h.len]; exact Nat.mul_pos hn hz
    have h0 := hc 0 _ (List.getElem?_eq_getElem hl)
    have hlt := World.block_lt_of_cell? w _ h0
    rw [block_of_add] at hlt
    have hb := hk ad e hn hlt ht
    refine ⟨ad, e, ?_, fun k u hu => ?_⟩
    · rcases ht with ht | ⟨cur, ht⟩
      · exact .inl ht
      · exact .inr ⟨cur, hb.trans ht⟩
    · rw [← hc k u hu]
      exact World.cell?_of_block (by rw [block_of_add]; exact hb)⟩
theorem Row.below (h : Row B T w A n c z cs) (hz : 0 < z) {B' : Nat} (hb : Below B' w w') (hB : w.heap.size ≤ B') : Row B T w' A n c z cs :=
  h.keep (fun ad _ _ hlt _ => hb.block _ (by omega)) hz
/-- Another row's block is written, of another element type. -/
theorem Row.other (h : Row B T w A n c z cs) (hz : 0 < z) {g : Nat} {T' : TypeId} {cur : Array Value} {fr : Nat × Nat} (hg : w.grownBy w' (some g)) (hB : B ≤ g) (ht : w.heap[g]? = some (.cells cur T' fr)) (hne : T ≠ T') : Row B T w' A n c z cs :=
  h.keep (fun ad _ _ hlt hty => hg.block _ hlt (by
    intro he
    injection he with he
    rcases hty with hty | ⟨cur', hty⟩
    · omega
    · rw [he, ht] at hty
      injection hty with hty
      injection hty with _ h2
      exact hne h2.symm)) hz
theorem Row.take (h : Row B T w A n c z cs) {m : Nat} (hm : m ≤ n) : Row B T w A m c z (cs.take (m * z)) :=
  ⟨by rw [List.length_take, h.len]; exact Nat.min_eq_left (Nat.mul_le_mul_right _ hm), Nat.le_trans hm h.cap, h.bd, fun hn => by
    obtain ⟨ad, e, ht, hc⟩ := h.cell (by omega)
    refine ⟨ad, e, ht, fun k u hu => hc k u ?_⟩
    rw [List.getElem?_take] at hu
    split at hu
    · exact hu
    · cases hu⟩
theorem Row.cut (h : Row B T w A n c z cs) {k : Nat} (hk : k ≤ n) :
    Row B T w (if c = k then A else A.map (·.add (k * z))) (n - k) (c - k) z (cs.drop (k * z)) := by
  refine ⟨by rw [List.length_drop, h.len, Nat.sub_mul], by have := h.cap; omega, by have := h.bd; omega, fun hn => ?_⟩
  have hcap := h.cap
  obtain ⟨ad, rfl, ht, hcell⟩ := h.cell (by omega)
  rw [if_neg (by omega)]
  refine ⟨ad.add (k * z), rfl, by rw [block_of_add]; exact ht, fun j u hu => ?_⟩
  rw [add_of_add]
  exact hcell _ u (by rw [← hu, List.getElem?_drop])
theorem Row.of_own {base : Nat} (h : w.ownsRow base T z (.slice A n c) n cs) : Row B T w A n c z cs := by
  have hcap : n ≤ c ∧ c ≤ 9223372036854775807 := by
    rcases h.2 with ⟨he, h0⟩ | ⟨g, cap, cur, he, _, _, h1, h2, _⟩
    · injection he with _ h1 h2; omega
    · injection he with _ h3 h4; simp only [maxLen] at h2; omega
  refine ⟨h.1, hcap.1, hcap.2, fun hn => ?_⟩
  rcases h.2 with ⟨_, h0⟩ | ⟨g, cap, cur, he, _, hh, _⟩
  · omega
  · injection he with hA _ _
    subst hA
    exact ⟨_, rfl, .inr ⟨cur, hh⟩, h.cells (g := g) rfl⟩
/-- The cell k. -/
theorem Row.at_ (h : Row B T w A n c z cs) {k : Nat} {u : Value} (hn : 0 < n) (hu : cs[k]? = some u) : ∃ ad, A = some ad ∧ w.cell? (ad.add k) = some u := by
  obtain ⟨ad, e, _, hc⟩ := h.cell hn
  exact ⟨ad, e, hc k u hu⟩
end

/-- Block g has elements of type T. -/
def Ty (w : World) (g : Nat) (T : TypeId) : Prop := ∃ cur fr, w.heap[g]? = some (.cells cur T fr)
theorem Ty.lt {w : World} {g : Nat} {T : TypeId} (h : Ty w g T) : g < w.heap.size := by
  obtain ⟨cur, fr, h⟩ := h
  rcases Nat.lt_or_ge g w.heap.size with hlt | hge
  · exact hlt
  · rw [Array.getElem?_eq_none hge] at h; cases h
theorem Ty.new (w : World) (cur : Array Value) (T : TypeId) (fr : Nat × Nat) : Ty (w.alloc (.cells cur T fr)) w.heap.size T := ⟨cur, fr, heap_alloc_new w _⟩
theorem Ty.alloc {w : World} {g : Nat} {T : TypeId} (h : Ty w g T) (o : Obj) : Ty (w.alloc o) g T := by
  have hl := h.lt
  obtain ⟨cur, fr, h⟩ := h
  exact ⟨cur, fr, (Below.heap_alloc w o g hl).trans h⟩
theorem Ty.below {w w' : World} {g : Nat} {T : TypeId} (h : Ty w g T) {B : Nat} (hb : Below B w w') (hg : w.heap.size ≤ B) : Ty w' g T := by
  have hl := h.lt
  obtain ⟨cur, fr, h⟩ := h
  exact ⟨cur, fr, (hb.block g (by omega)).trans h⟩
theorem Ty.setCell {w : World} {g : Nat} {T : TypeId} (h : Ty w g T) (p : Addr) (u : Value) : Ty (w.setCell p u) g T := by
  obtain ⟨cur, fr, h⟩ := h
  by_cases hp : g = p.block
  · subst hp
    exact ⟨if p.spot.isSome then cur else cur.setIfInBounds p.off u, fr, by simp [World.setCell, Array.getElem?_modify, h]⟩
  · exact ⟨cur, fr, (Below.heap_setCell w p u g hp).trans h⟩
theorem Ty.drewN {w : World} {g : Nat} {T : TypeId} (h : Ty w g T) (n : Nat) : Ty (w.drewN n) g T := h
theorem Ty.drew {w : World} {g : Nat} {T : TypeId} (h : Ty w g T) : Ty w.drew g T := h
theorem Row.setCell {B T : Nat} {w : World} {A : Option Addr} {n c z : Nat} {cs : List Value} (h : Row B T w A n c z cs) (hz : 0 < z) {p : Addr} (hB : B ≤ p.block) {T' : TypeId} (ht : Ty w p.block T') (hne : T ≠ T') (u : Value) : Row B T (w.setCell p u) A n c z cs := by
  obtain ⟨cur, fr, ht⟩ := ht
  refine h.keep (fun ad _ _ hlt hty => Below.heap_setCell w p u _ ?_) hz
  rintro he
  rcases hty with hty | ⟨cur', hty⟩
  · omega
  · rw [he, ht] at hty
    injection hty with hty
    injection hty with _ h2
    exact hne h2.symm

/-- Only orders have been drawn. -/
def Drawn (w w' : World) : Prop := ∃ n, w' = w.drewN n
theorem Drawn.refl (w : World) : Drawn w w := ⟨0, rfl⟩
theorem Drawn.drewN {w w' : World} (h : Drawn w w') (n : Nat) : Drawn w (w'.drewN n) := by
  obtain ⟨m, rfl⟩ := h
  exact ⟨m + n, World.drewN_drewN ..⟩
theorem Drawn.drew {w w' : World} (h : Drawn w w') : Drawn w w'.drew := by
  have := h.drewN 1
  exact this
theorem Drawn.trans {w w1 w2 : World} (h : Drawn w w1) (k : Drawn w1 w2) : Drawn w w2 := by
  obtain ⟨m, rfl⟩ := k
  exact h.drewN m
theorem Drawn.below {w w' : World} (h : Drawn w w') (B : Nat) : Below B w w' := by
  obtain ⟨m, rfl⟩ := h
  exact ⟨rfl, rfl, rfl, Nat.le_refl _, fun _ _ => rfl⟩

/-- What comes back is v; only orders have been drawn. -/
def ValQ (v : Value) (w : World) (e : Ending) (w' : World) : Prop := e = .returned v ∧ Drawn w w'
theorem ValQ.mk {v v' : Value} {w w' : World} (h : v = v') (hw : Drawn w w') : ValQ v' w (.returned v) w' := ⟨by rw [h], hw⟩

/-! Digits. -/
def digCells (xs : List Nat) : List Value := xs.map fun (x : Nat) => Value.int .u32 (x : Int)
theorem digCells_at {xs : List Nat} {k : Nat} (h : k < xs.length) : (digCells xs)[k]? = some (.int .u32 ((dg xs k : Nat) : Int)) := by
  unfold digCells dg
  rw [List.getElem?_map, List.getElem?_eq_getElem h, List.getD_eq_getElem?_getD, List.getElem?_eq_getElem h]
  rfl
theorem digCells_take (xs : List Nat) (m : Nat) : (digCells xs).take m = digCells (xs.take m) := by unfold digCells; rw [List.map_take]
theorem digCells_drop (xs : List Nat) (m : Nat) : (digCells xs).drop m = digCells (xs.drop m) := by unfold digCells; rw [List.map_drop]
theorem digCells_length (xs : List Nat) : (digCells xs).length = xs.length := by simp [digCells]
theorem digCells_append (xs ys : List Nat) : digCells (xs ++ ys) = digCells xs ++ digCells ys := by simp [digCells]
theorem digCells_one (xs : List Nat) : ∀ u ∈ digCells xs, u.oneCell' = true := by
  intro u hu
  obtain ⟨x, _, rfl⟩ := List.mem_map.1 hu
  rfl

/-- The slice value .slice A n c reads as the 32-bit digits xs. -/
structure Dig (B : Nat) (w : World) (A : Option Addr) (n c : Nat) (xs : List Nat) : Prop where
  row : Row B 109 w A n c 1 (digCells xs)
  dig : Lt32 xs
section
variable {B : Nat} {w w' : World} {A : Option Addr} {n c : Nat} {xs : List Nat}
theorem Dig.len (h : Dig B w A n c xs) : xs.length = n := by have := h.row.len; rw [digCells_length] at this; omega
theorem Dig.cap (h : Dig B w A n c xs) : n ≤ c := h.row.cap
theorem Dig.bd (h : Dig B w A n c xs) : c ≤ 9223372036854775807 := h.row.bd
theorem Dig.cell (h : Dig B w A n c xs) (k : Nat) (hk : k < n) : ∃ ad, A = some ad ∧ w.cell? (ad.add k) = some (.int .u32 ((dg xs k : Nat) : Int)) :=
  h.row.at_ (by omega) (digCells_at (by rw [h.len]; exact hk))
theorem Dig.nil : Dig B w none 0 0 [] := ⟨Row.nil, Lt32.nil⟩
theorem Dig.below (h : Dig B w A n c xs) {B' : Nat} (hb : Below B' w w') (hB : w.heap.size ≤ B') : Dig B w' A n c xs := ⟨h.row.below (by omega) hb hB, h.dig⟩
theorem Dig.take (h : Dig B w A n c xs) {m : Nat} (hm : m ≤ n) : Dig B w A m c (xs.take m) := by
  refine ⟨?_, h.dig.take m⟩
  have := h.row.take hm
  rwa [Nat.mul_one, digCells_take] at this
theorem Dig.of_own {base : Nat} (h : w.ownsRow base 109 1 (.slice A n c) n (digCells xs)) (hd : Lt32 xs) : Dig B w A n c xs := ⟨Row.of_own h, hd⟩
theorem Dig.other (h : Dig B w A n c xs) {g : Nat} {T' : TypeId} {cur : Array Value} {fr : Nat × Nat} (hg : w.grownBy w' (some g)) (hB : B ≤ g) (ht : w.heap[g]? = some (.cells cur T' fr)) (hne : 109 ≠ T') : Dig B w' A n c xs :=
  ⟨h.row.other (by omega) hg hB ht hne, h.dig⟩
theorem Dig.drew (h : Dig B w A n c xs) : Dig B w.drew A n c xs := h.below (((Below.refl w.heap.size w)).drew) (Nat.le_refl _)
theorem Dig.setCell (h : Dig B w A n c xs) {p : Addr} (hB : B ≤ p.block) {T' : TypeId} (ht : Ty w p.block T') (hne : 109 ≠ T') (u : Value) : Dig B (w.setCell p u) A n c xs :=
  ⟨h.row.setCell (by omega) hB ht hne u, h.dig⟩
end
end Go.Proofs.Ytnknidfpkmnncaa
