/- C3, S1, S2, S3, S4, S5, C4, C5, C6, Q. -/
import Derived.Test.YtnknidfpkmnncaaGreatM1
import Derived.IntWalk
import Derived.ChangeAlike
import Derived.Laws.IdiomCopy
/- Rows of terms; the insertion sort of the library over them. -/
namespace Go.Proofs.YtnknidfpkmnncaaGreat
open Go.RowKit

/-- A term as its six cells hold it. -/
structure TV where
  neg : Bool
  A : Option Addr
  n : Nat
  c : Nat
  e : Ex
def TV.cells (t : TV) : List Value := [.bool t.neg, .slice t.A t.n t.c, .int .i64 t.e.1, .int .i64 t.e.2.1, .int .i64 t.e.2.2.1, .int .i64 t.e.2.2.2]
def flat (L : List TV) : List Value := L.flatMap TV.cells
theorem flat_nil : flat [] = [] := rfl
theorem flat_cons (t : TV) (L : List TV) : flat (t :: L) = t.cells ++ flat L := rfl
theorem flat_append (L M : List TV) : flat (L ++ M) = flat L ++ flat M := by simp [flat]
theorem TV.cells_length (t : TV) : t.cells.length = 6 := rfl
theorem flat_length (L : List TV) : (flat L).length = L.length * 6 := by
  induction L with
  | nil => rfl
  | cons t L ih => rw [flat_cons, List.length_append, ih, TV.cells_length, List.length_cons]; omega
theorem flat_at (L : List TV) (i : Nat) (t : TV) (h : L[i]? = some t) (j : Nat) (hj : j < 6) : (flat L)[i * 6 + j]? = t.cells[j]? := by
  induction L generalizing i with
  | nil => simp at h
  | cons s L ih =>
    cases i with
    | zero =>
      simp at h
      subst h
      rw [flat_cons, Nat.zero_mul, Nat.zero_add, List.getElem?_append_left (by rw [TV.cells_length]; exact hj)]
    | succ i =>
      have h' : L[i]? = some t := by simpa using h
      rw [flat_cons, List.getElem?_append_right (by rw [TV.cells_length]; omega), TV.cells_length, show (i + 1) * 6 + j - 6 = i * 6 + j by omega]
      exact ih i h'
theorem flat_take (L : List TV) (m : Nat) : (flat L).take (m * 6) = flat (L.take m) := by
  induction L generalizing m with
  | nil => simp [flat]
  | cons t L ih =>
    cases m with
    | zero => simp [flat]
    | succ m =>
      rw [List.take_succ_cons, flat_cons, flat_cons, List.take_append, TV.cells_length, List.take_of_length_le (by rw [TV.cells_length]; omega), show (m + 1) * 6 - 6 = m * 6 by omega, ih]

/-- Block g is a row of terms whose first ones are L. -/
structure Terms (w : World) (g : Nat) (L : List TV) : Prop where
  ex_ : ∃ cur : Array Value, w.heap[g]? = some (.cells cur 57 (0, 0)) ∧ L.length * 6 ≤ cur.size ∧ ∀ (k : Nat) (u : Value), (flat L)[k]? = some u → cur[k]? = some u
theorem Terms.cell {w : World} {g : Nat} {L : List TV} (h : Terms w g L) {k : Nat} {u : Value} (hk : (flat L)[k]? = some u) : w.cell? ⟨g, k, none⟩ = some u := by
  obtain ⟨cur, hc, _, hf⟩ := h.ex_
  rw [cell_of_row w g k _ _ _ hc]
  exact hf k u hk
theorem Terms.frozen {w : World} {g : Nat} {L : List TV} (h : Terms w g L) (k : Nat) : w.frozen? ⟨g, k, none⟩ = false := by
  obtain ⟨cur, hc, _, hf⟩ := h.ex_
  simp [World.frozen?, hc]
theorem Terms.six {w : World} {g : Nat} {L : List TV} (h : Terms w g L) {i : Nat} {t : TV} (ht : L[i]? = some t) :
    w.cell? ⟨g, i * 6, none⟩ = some (.bool t.neg) ∧ w.cell? ⟨g, i * 6 + 1, none⟩ = some (.slice t.A t.n t.c) ∧ w.cell? ⟨g, i * 6 + 2, none⟩ = some (.int .i64 t.e.1) ∧
    w.cell? ⟨g, i * 6 + 3, none⟩ = some (.int .i64 t.e.2.1) ∧ w.cell? ⟨g, i * 6 + 4, none⟩ = some (.int .i64 t.e.2.2.1) ∧ w.cell? ⟨g, i * 6 + 5, none⟩ = some (.int .i64 t.e.2.2.2) :=
  ⟨h.cell (flat_at L i t ht 0 (by omega)), h.cell (flat_at L i t ht 1 (by omega)), h.cell (flat_at L i t ht 2 (by omega)), h.cell (flat_at L i t ht 3 (by omega)), h.cell (flat_at L i t ht 4 (by omega)), h.cell (flat_at L i t ht 5 (by omega))⟩

theorem Terms.lt {w : World} {g : Nat} {L : List TV} (h : Terms w g L) : g < w.heap.size := by
  obtain ⟨cur, hc, _⟩ := h.ex_
  rcases Nat.lt_or_ge g w.heap.size with hlt | hge
  · exact hlt
  · rw [Array.getElem?_eq_none hge] at hc; cases hc
theorem Terms.below {w w' : World} {g : Nat} {L : List TV} (h : Terms w g L) (hb : Below w.heap.size w w') : Terms w' g L := by
  have hl := h.lt
  obtain ⟨cur, hc, h2⟩ := h.ex_
  exact ⟨cur, (hb.block g hl).trans hc, h2⟩
theorem Terms.drewN {w : World} {g : Nat} {L : List TV} (h : Terms w g L) (n : Nat) : Terms (w.drewN n) g L := h.below (((Drawn.refl w).drewN n).below w.heap.size)
theorem Terms.drew {w : World} {g : Nat} {L : List TV} (h : Terms w g L) : Terms w.drew g L := h.below ((Below.refl _ _).drew)
/-- The twelve cells of two neighbours. -/
abbrev Held12 (w' : World) (g m : Nat) (t s : TV) : Prop :=
  w'.cell? ⟨g, (m + 1) * 6, none⟩ = some (.bool t.neg) ∧ w'.cell? ⟨g, (m + 1) * 6 + 1, none⟩ = some (.slice t.A t.n t.c) ∧ w'.cell? ⟨g, (m + 1) * 6 + 2, none⟩ = some (.int .i64 t.e.1) ∧ w'.cell? ⟨g, (m + 1) * 6 + 3, none⟩ = some (.int .i64 t.e.2.1) ∧ w'.cell? ⟨g, (m + 1) * 6 + 4, none⟩ = some (.int .i64 t.e.2.2.1) ∧ w'.cell? ⟨g, (m + 1) * 6 + 5, none⟩ = some (.int .i64 t.e.2.2.2) ∧
  w'.cell? ⟨g, m * 6, none⟩ = some (.bool s.neg) ∧ w'.cell? ⟨g, m * 6 + 1, none⟩ = some (.slice s.A s.n s.c) ∧ w'.cell? ⟨g, m * 6 + 2, none⟩ = some (.int .i64 s.e.1) ∧ w'.cell? ⟨g, m * 6 + 3, none⟩ = some (.int .i64 s.e.2.1) ∧ w'.cell? ⟨g, m * 6 + 4, none⟩ = some (.int .i64 s.e.2.2.1) ∧ w'.cell? ⟨g, m * 6 + 5, none⟩ = some (.int .i64 s.e.2.2.2)
theorem Terms.held {w : World} {g m : Nat} {L : List TV} {t s : TV} (h : Terms w g L) (ht : L[m + 1]? = some t) (hs : L[m]? = some s) : Held12 w g m t s := by
  obtain ⟨c0, c1, c2, c3, c4, c5⟩ := h.six ht
  obtain ⟨d0, d1, d2, d3, d4, d5⟩ := h.six hs
  exact ⟨c0, c1, c2, c3, c4, c5, d0, d1, d2, d3, d4, d5⟩

theorem Terms.set6 {w : World} {g i : Nat} {L : List TV} (h : Terms w g L) (hi : i < L.length) (t : TV) :
    Terms ((((((w.setCell ⟨g, i * 6, none⟩ (.bool t.neg)).setCell ⟨g, i * 6 + 1, none⟩ (.slice t.A t.n t.c)).setCell ⟨g, i * 6 + 2, none⟩ (.int .i64 t.e.1)).setCell ⟨g, i * 6 + 3, none⟩ (.int .i64 t.e.2.1)).setCell ⟨g, i * 6 + 4, none⟩ (.int .i64 t.e.2.2.1)).setCell ⟨g, i * 6 + 5, none⟩ (.int .i64 t.e.2.2.2)) g (L.set i t) := by
  obtain ⟨cur, hc, hsz, hf⟩ := h.ex_
  have hfl : ∀ k u, (flat (L.set i t))[k]? = some u → (if i * 6 ≤ k ∧ k < i * 6 + 6 then t.cells[k - i * 6]? else (flat L)[k]?) = some u := by
    intro k u hk
    have hkl : k < (flat (L.set i t)).length := (List.getElem?_eq_some_iff.1 hk).1
    rw [flat_length, List.length_set] at hkl
    obtain ⟨q, r, hr, rfl⟩ : ∃ q r, r < 6 ∧ k = q * 6 + r := ⟨k / 6, k % 6, Nat.mod_lt _ (by omega), by omega⟩
    have hq : q < L.length := by omega
    by_cases hqi : q = i
    · subst hqi
      rw [if_pos (by omega), show q * 6 + r - q * 6 = r by omega]
      rw [flat_at _ q t (by simp [hq]) r hr] at hk
      exact hk
    · rw [if_neg (by omega)]
      have he : L[q]? = some L[q] := List.getElem?_eq_getElem hq
      rw [flat_at _ q L[q] (by rw [List.getElem?_set_ne (Ne.symm hqi)]; exact he) r hr] at hk
      rw [flat_at _ q L[q] he r hr]
      exact hk
  refine ⟨(((((cur.setIfInBounds (i * 6) (.bool t.neg)).setIfInBounds (i * 6 + 1) (.slice t.A t.n t.c)).setIfInBounds (i * 6 + 2) (.int .i64 t.e.1)).setIfInBounds (i * 6 + 3) (.int .i64 t.e.2.1)).setIfInBounds (i * 6 + 4) (.int .i64 t.e.2.2.1)).setIfInBounds (i * 6 + 5) (.int .i64 t.e.2.2.2), ?_, by simpa using hsz, fun k u hk => ?_⟩
  · simp [World.setCell, Array.getElem?_modify, hc]
  · have h1 := hfl k u hk
    have hi6 : i * 6 + 6 ≤ cur.size := by omega
    by_cases hin : i * 6 ≤ k ∧ k < i * 6 + 6
    · rw [if_pos hin] at h1
      obtain ⟨r, hr, rfl⟩ : ∃ r, r < 6 ∧ k = i * 6 + r := ⟨k - i * 6, by omega, by omega⟩
      rw [show i * 6 + r - i * 6 = r by omega] at h1
      match r, hr, h1 with
      | 0, _, h1 => simp [TV.cells] at h1; subst h1; simp [Array.getElem?_setIfInBounds]; omega
      | 1, _, h1 => simp [TV.cells] at h1; subst h1; simp [Array.getElem?_setIfInBounds]; omega
      | 2, _, h1 => simp [TV.cells] at h1; subst h1; simp [Array.getElem?_setIfInBounds]; omega
      | 3, _, h1 => simp [TV.cells] at h1; subst h1; simp [Array.getElem?_setIfInBounds]; omega
      | 4, _, h1 => simp [TV.cells] at h1; subst h1; simp [Array.getElem?_setIfInBounds]; omega
      | 5, _, h1 => simp [TV.cells] at h1; subst h1; simp [Array.getElem?_setIfInBounds]; omega
    · rw [if_neg hin] at h1
      rw [Array.getElem?_setIfInBounds_ne (by omega), Array.getElem?_setIfInBounds_ne (by omega), Array.getElem?_setIfInBounds_ne (by omega), Array.getElem?_setIfInBounds_ne (by omega), Array.getElem?_setIfInBounds_ne (by omega), Array.getElem?_setIfInBounds_ne (by omega)]
      exact hf k u h1

/-- Only block g, and what is new, has turned. -/
def Only (g : Nat) (w w' : World) : Prop := w.grownBy w' (some g)
theorem Only.refl (g : Nat) (w : World) : Only g w w := World.grownBy.refl w _
theorem Only.below {g : Nat} {a w w' : World} (h : Only g a w) {B : Nat} (hb : Below B w w') (hB : w.heap.size ≤ B) : Only g a w' :=
  ⟨hb.os.trans h.os, hb.tape.trans h.tape, hb.output.trans h.output, Nat.le_trans h.size hb.size, fun i hi hne => (hb.block i (by have := h.size; omega)).trans (h.block i hi hne)⟩
theorem Only.drew {g : Nat} {a w : World} (h : Only g a w) : Only g a w.drew := h.below ((Below.refl w.heap.size w).drew) (Nat.le_refl _)
theorem Only.drewN {g : Nat} {a w : World} (h : Only g a w) (n : Nat) : Only g a (w.drewN n) := h.below (((Drawn.refl w).drewN n).below w.heap.size) (Nat.le_refl _)
theorem Only.trans {g : Nat} {a w w' : World} (h : Only g a w) (k : Only g w w') : Only g a w' :=
  ⟨k.os.trans h.os, k.tape.trans h.tape, k.output.trans h.output, Nat.le_trans h.size k.size, fun i hi hne => (k.block i (by have := h.size; omega) hne).trans (h.block i hi hne)⟩
theorem Only.setCell {g : Nat} {a w : World} (h : Only g a w) {p : Addr} (hp : p.block = g) (u : Value) : Only g a (w.setCell p u) :=
  ⟨h.os, h.tape, h.output, by simpa [World.setCell] using h.size, fun i hi hne => (Below.heap_setCell w p u i (by rintro rfl; exact hne (by rw [hp]))).trans (h.block i hi hne)⟩

theorem Only.set6 {g i : Nat} {a w : World} (h : Only g a w) (u0 u1 u2 u3 u4 u5 : Value) :
    Only g a ((((((w.setCell ⟨g, i, none⟩ u0).setCell ⟨g, i + 1, none⟩ u1).setCell ⟨g, i + 2, none⟩ u2).setCell ⟨g, i + 3, none⟩ u3).setCell ⟨g, i + 4, none⟩ u4).setCell ⟨g, i + 5, none⟩ u5) :=
  (((((h.setCell (p := ⟨g, i, none⟩) rfl u0).setCell (p := ⟨g, i + 1, none⟩) rfl u1).setCell (p := ⟨g, i + 2, none⟩) rfl u2).setCell (p := ⟨g, i + 3, none⟩) rfl u3).setCell (p := ⟨g, i + 4, none⟩) rfl u4).setCell (p := ⟨g, i + 5, none⟩) rfl u5
/-- The world behind the exchange of two neighbours. -/
theorem Terms.swap {w : World} {g m : Nat} {U Q : List TV} {s t : TV} (h : Terms w g (U ++ s :: t :: Q)) (hm : U.length = m) :
    Terms ((((((((((((w.setCell ⟨g, (m + 1) * 6, none⟩ (.bool s.neg)).setCell ⟨g, (m + 1) * 6 + 1, none⟩ (.slice s.A s.n s.c)).setCell ⟨g, (m + 1) * 6 + 2, none⟩ (.int .i64 s.e.1)).setCell ⟨g, (m + 1) * 6 + 3, none⟩ (.int .i64 s.e.2.1)).setCell ⟨g, (m + 1) * 6 + 4, none⟩ (.int .i64 s.e.2.2.1)).setCell ⟨g, (m + 1) * 6 + 5, none⟩ (.int .i64 s.e.2.2.2)).setCell
      ⟨g, m * 6, none⟩ (.bool t.neg)).setCell ⟨g, m * 6 + 1, none⟩ (.slice t.A t.n t.c)).setCell ⟨g, m * 6 + 2, none⟩ (.int .i64 t.e.1)).setCell ⟨g, m * 6 + 3, none⟩ (.int .i64 t.e.2.1)).setCell ⟨g, m * 6 + 4, none⟩ (.int .i64 t.e.2.2.1)).setCell ⟨g, m * 6 + 5, none⟩ (.int .i64 t.e.2.2.2)) g (U ++ t :: s :: Q) := by
  have h1 := h.set6 (i := m + 1) (by simp; omega) s
  have h2 := h1.set6 (i := m) (by simp; omega) t
  rw [swap_len U s t Q m hm] at h2
  exact h2

/-- The order of the terms: exponents descend. -/
def Desc (s t : TV) : Prop := 0 ≤ cmpE s.e t.e
theorem Desc.trans (a b c : TV) (h : Desc a b) (k : Desc b c) : Desc a c := cmpE_trans h k
/-- What the insertion sort leaves: block g bears P, a sorted permutation of M, S. -/
def SortP (g : Nat) (P M S : List TV) (w : World) (e : Ending) (w' : World) : Prop :=
  e = .returned (.tuple #[]) ∧ ∃ M', M'.Perm M ∧ M'.Pairwise Desc ∧ Terms w' g (P ++ (M' ++ S)) ∧ Only g w w'

set_option maxRecDepth 100000 in
set_option maxHeartbeats 2000000 in
theorem insertion_any (g cap a b n : Nat) (P M S : List TV) (w : World) (h : Terms w g (P ++ (M ++ S))) (hn : (P ++ (M ++ S)).length = n) (hP : P.length = a) (hM : P.length + M.length = b) (_hcap : n ≤ cap) (_hbd : cap ≤ 9223372036854775807) (hnb : n ≤ 1099511627776) :
    Calls Tryz.prog 80 #[.slice (some ⟨g, 0, none⟩) n cap, .int .i64 a, .int .i64 b, .func (.func 29) #[] #[]] w (SortP g P M S w) := by
  have hab : a ≤ b := by omega
  have hb : b ≤ n := by simp at hn; omega
  have HN := Lib.hid hn
  have HP := Lib.hid hP
  have HM := Lib.hid hM
  clear hn hP hM
  go_enter Tryz.func80, Tryz.ntmps80
  go_wp2
  go_loopw [8] (fun i wr => ∃ (k : Nat) (X Y : List TV), a + 1 ≤ k ∧ k ≤ b + 1 ∧ i = .int .i64 k ∧ Terms wr g (P ++ ((X ++ Y) ++ S)) ∧ Hid (X.length = min (k - a) (b - a) ∧ (X ++ Y).Perm M ∧ X.Pairwise Desc ∧ Only g w wr)) (fun i _ => (b + 1 - (intOf i).toNat))
  case atStart => 
    refine ⟨a + 1, M.take 1, M.drop 1, by omega, by omega, by go_num, by rw [List.take_append_drop]; exact h, Lib.hid ⟨?_, by rw [List.take_append_drop], ?_, Only.refl _ _⟩⟩
    · rw [List.length_take]; have := HP.out; have := HM.out; omega
    · match M with
      | [] => simp
      | [x] => simp
      | x :: y :: r => simp
  case round =>
    obtain ⟨k, X, Y, hk, hkb, rfl, hT, HX⟩ := hrel
    by_cases hlt : k < b
    · obtain ⟨x, Y', rfl⟩ : ∃ x Y', Y = x :: Y' := by
        match Y with
        | x :: Y' => exact ⟨x, Y', rfl⟩
        | [] =>
          exfalso
          have h1 := HX.out.1
          have h2 := HX.out.2.1.length_eq
          have := HP.out; have := HM.out
          simp at h2
          omega
      go_wp2
      go_loopw [9] (fun i wq => ∃ (j : Nat) (X1 X2 : List TV), a ≤ j ∧ j ≤ k ∧ i = .int .i64 j ∧ Terms wq g ((P ++ X1) ++ x :: (X2 ++ (Y' ++ S))) ∧ Hid (X = X1 ++ X2 ∧ (P ++ X1).length = j ∧ (∀ y ∈ X2, cmpE y.e x.e < 0) ∧ Only g w wq)) (fun i _ => ((intOf i).toNat))
      case atStart =>
        refine ⟨k, X, [], by omega, Nat.le_refl _, rfl, ?_, Lib.hid ⟨by simp, ?_, by simp, HX.out.2.2.2⟩⟩
        · have e : P ++ ((X ++ x :: Y') ++ S) = (P ++ X) ++ x :: ([] ++ (Y' ++ S)) := by simp
          rw [← e]; exact hT
        · have h1 := HX.out.1; have h2 := HP.out
          rw [List.length_append, h1, h2]; omega
      case round =>
        clear hT
        obtain ⟨j, X1, X2, hja, hjk, rfl, hT, HI⟩ := hrel
        by_cases hgt : a < j
        · obtain ⟨m, rfl⟩ : ∃ m, j = m + 1 := ⟨j - 1, by omega⟩
          obtain ⟨U, s, rfl⟩ : ∃ U s, X1 = U ++ [s] := by
            rcases List.eq_nil_or_concat X1 with h0 | ⟨U, s, hU⟩
            · have h1 := HI.out.2.1; have h2 := HP.out
              rw [h0] at h1; simp at h1; omega
            · exact ⟨U, s, by rw [hU, List.concat_eq_append]⟩
          have hUm : (P ++ U).length = m := by have h1 := HI.out.2.1; simp at h1 ⊢; omega
          have HUm := Lib.hid hUm
          have hT2 : Terms wr g ((P ++ U) ++ s :: x :: (X2 ++ (Y' ++ S))) := by
            have e : (P ++ (U ++ [s])) ++ x :: (X2 ++ (Y' ++ S)) = (P ++ U) ++ s :: x :: (X2 ++ (Y' ++ S)) := by simp
            rw [← e]; exact hT
          have HT := Lib.hid (at_len1 (P ++ U) s x (X2 ++ (Y' ++ S)) m hUm)
          have HS := Lib.hid (at_len (P ++ U) s (x :: (X2 ++ (Y' ++ S))) m hUm)
          have hS := hT2.held HT.out HS.out
          have hMd := hT2.drew
          have hO := HI.out.2.2.2.drew
          clear hUm hT
          have hg : decide ((a : Int) < (m : Int) + 1) = true := by rw [decide_eq_true_eq]; omega
          have hc : (m : Int) + 1 < (n : Int) := by omega
          rw [show ((m + 1 : Nat) : Int) = (m : Int) + 1 from by omega]
          have i0 : (0 : Int) ≤ (m : Int) + 1 := by omega
          have i2 : (0 : Int) ≤ (m : Int) := by omega
          have i3 : (m : Int) < (n : Int) := by omega
          have r1 : IntKind.i64.wrap (m : Int) = (m : Int) := IntWalk.i64_in _ (by omega)
          have r2 : ((m : Int) + 1).toNat = m + 1 := by omega
          have r3 : IntKind.i64.wrap ((m : Int) + 1) = (m : Int) + 1 := IntWalk.i64_in _ (by omega)
          go_wp2_with fail
          go_region_held3 (fun w' => Held12 w' g m x s) (first | exact hS | exact hS1 | go_keep)
             (first
               | (go_at_call 29; ((with_reducible refine (cmp46_any _ _ _ _ _ _ _ _ x.e s.e _).mono ?_); rintro e w1 ⟨rfl, hb1⟩; have hM1 := hMd.below hb1; have hS1 := hM1.held HT.out HS.out; have hO1 := hO.below hb1 (Nat.le_refl _))))
          obtain ⟨c0, c1, c2, c3, c4, c5, d0, d1, d2, d3, d4, d5⟩ := hS1
          by_cases hcmp : cmpE s.e x.e < 0
          · have HN2 := Lib.hid (show X = U ++ (s :: X2) ∧ (P ++ U).length = m ∧ (∀ y ∈ (s :: X2), cmpE y.e x.e < 0) from
              ⟨by rw [HI.out.1]; simp, HUm.out, fun y hy => by
                rcases List.mem_cons.1 hy with rfl | hy
                · exact hcmp
                · exact HI.out.2.2.1 y hy⟩)
            have HW := Lib.hid (hM1.swap HUm.out)
            have HO := Lib.hid ((hO1.set6 (i := (m + 1) * 6) (.bool s.neg) (.slice s.A s.n s.c) (.int .i64 s.e.1) (.int .i64 s.e.2.1) (.int .i64 s.e.2.2.1) (.int .i64 s.e.2.2.2)).set6 (i := m * 6) (.bool x.neg) (.slice x.A x.n x.c) (.int .i64 x.e.1) (.int .i64 x.e.2.1) (.int .i64 x.e.2.2.1) (.int .i64 x.e.2.2.2))
            have f0 := hM1.frozen
            clear hS hMd hO hT2 hM1 hO1 hb1
            go_wp2
            go_region
            go_wp2
            go_roundw
            case rel =>
              exact ⟨m, U, s :: X2, by omega, by omega, rfl, HW.out.drew, Lib.hid ⟨HN2.out.1, HN2.out.2.1, HN2.out.2.2, HO.out.drew⟩⟩
            case measure => simp [intOf]
          · have hXs : (U ++ [s]) ++ x :: X2 = (U ++ [s]) ++ x :: X2 := rfl
            have HN2 := Lib.hid (show ((U ++ [s]) ++ x :: X2).Pairwise Desc from insert_sorted Desc.trans (by rw [← HI.out.1]; exact HX.out.2.2.1)
              (fun y hy => by have h1 := HI.out.2.2.1 y hy; have h2 := cmpE_neg y.e x.e; unfold Desc; omega)
              (fun Y0 s0 h0 => by
                have := List.append_inj_right' h0 rfl
                injection this with this
                subst this
                unfold Desc; omega))
            have HO := Lib.hid hO1
            clear hS hMd hO hT2 hO1 hb1
            go_wp2
            go_roundw
            case rel =>
              refine ⟨k + 1, (U ++ [s]) ++ x :: X2, Y', by omega, by omega, by go_num, ?_, Lib.hid ⟨?_, ?_, HN2.out, HO.out⟩⟩
              · have e : (P ++ U) ++ s :: x :: (X2 ++ (Y' ++ S)) = P ++ ((((U ++ [s]) ++ x :: X2) ++ Y') ++ S) := by simp
                rw [← e]; exact hM1
              · have h1 := HX.out.1; rw [HI.out.1] at h1; simp at h1 ⊢; omega
              · refine List.Perm.trans ?_ HX.out.2.1
                rw [HI.out.1]
                exact perm_insert _ _ _ _
            case measure => simp [intOf]; omega
        · have hja' : j = a := by omega
          subst hja'
          have hX1 : X1 = [] := by
            have h1 := HI.out.2.1; have h2 := HP.out
            simp at h1
            exact List.eq_nil_of_length_eq_zero (by omega)
          subst hX1
          have hg : decide ((j : Int) < (j : Int)) = false := by simp
          have HN2 := Lib.hid (show (([] : List TV) ++ x :: X2).Pairwise Desc from insert_sorted Desc.trans (by rw [← HI.out.1]; exact HX.out.2.2.1)
              (fun y hy => by have h1 := HI.out.2.2.1 y hy; have h2 := cmpE_neg y.e x.e; unfold Desc; omega)
              (fun Y0 s0 h0 => by simp at h0))
          go_wp2
          go_quiet (fail)
          go_wp2
          go_roundw
          case rel =>
            refine ⟨k + 1, x :: X2, Y', by omega, by omega, by go_num, ?_, Lib.hid ⟨?_, ?_, HN2.out, HI.out.2.2.2.drewN _⟩⟩
            · have e : (P ++ ([] : List TV)) ++ x :: (X2 ++ (Y' ++ S)) = P ++ (((x :: X2) ++ Y') ++ S) := by simp
              rw [← e]; exact hT.drewN _
            · have h1 := HX.out.1; rw [HI.out.1] at h1; simp at h1 ⊢; omega
            · refine List.Perm.trans ?_ HX.out.2.1
              rw [HI.out.1]
              exact perm_insert [] _ _ _
          case measure => simp [intOf]; omega
    · have hX : Y = [] := by
        have h1 := HX.out.1; have h2 := HX.out.2.1.length_eq; have h3 := HP.out; have h4 := HM.out
        simp at h2
        exact List.eq_nil_of_length_eq_zero (by omega)
      subst hX
      go_wp2
      go_end0
      refine ⟨rfl, X, by simpa using HX.out.2.1, HX.out.2.2.1, by simpa using hT, HX.out.2.2.2⟩
end Go.Proofs.YtnknidfpkmnncaaGreat
/- The library's swapRange and rotate over terms: two stretches of a row are exchanged. -/
namespace Go.Proofs.YtnknidfpkmnncaaGreat
open Go.RowKit

/-- What an exchange leaves: block g bears L. -/
def TurnP (g : Nat) (L : List TV) (w : World) (e : Ending) (w' : World) : Prop :=
  e = .returned (.tuple #[]) ∧ Terms w' g L ∧ Only g w w'
theorem set_len {α : Type} (U : List α) (s x : α) (Q : List α) (m : Nat) (h : U.length = m) : (U ++ s :: Q).set m x = U ++ x :: Q := by
  subst h
  rw [List.set_append_right _ _ (by omega)]
  simp
/-- The world behind the exchange of two terms. -/
theorem Terms.swap2 {w : World} {g x y : Nat} {L : List TV} {s t : TV} (h : Terms w g L) (hx : x < L.length) (hy : y < L.length) :
    Terms ((((((((((((w.setCell ⟨g, x * 6, none⟩ (.bool t.neg)).setCell ⟨g, x * 6 + 1, none⟩ (.slice t.A t.n t.c)).setCell ⟨g, x * 6 + 2, none⟩ (.int .i64 t.e.1)).setCell ⟨g, x * 6 + 3, none⟩ (.int .i64 t.e.2.1)).setCell ⟨g, x * 6 + 4, none⟩ (.int .i64 t.e.2.2.1)).setCell ⟨g, x * 6 + 5, none⟩ (.int .i64 t.e.2.2.2)).setCell
      ⟨g, y * 6, none⟩ (.bool s.neg)).setCell ⟨g, y * 6 + 1, none⟩ (.slice s.A s.n s.c)).setCell ⟨g, y * 6 + 2, none⟩ (.int .i64 s.e.1)).setCell ⟨g, y * 6 + 3, none⟩ (.int .i64 s.e.2.1)).setCell ⟨g, y * 6 + 4, none⟩ (.int .i64 s.e.2.2.1)).setCell ⟨g, y * 6 + 5, none⟩ (.int .i64 s.e.2.2.2)) g ((L.set x t).set y s) :=
  (h.set6 (i := x) hx t).set6 (i := y) (by simpa using hy) s
theorem range_step {P U Q V S : List TV} {i a b k : Nat} {s t : TV} (hP : P.length = a) (hb : P.length + U.length + Q.length = b) (hU : U.length = k) (hV : V.length = k) (hi : i < k) (hs : U[i]? = some s) (ht : V[i]? = some t) :
    let L := P ++ (V.take i ++ (U.drop i ++ (Q ++ (U.take i ++ (V.drop i ++ S)))))
    L[a + i]? = some s ∧ L[b + i]? = some t ∧ (L.set (a + i) t).set (b + i) s = P ++ (V.take (i + 1) ++ (U.drop (i + 1) ++ (Q ++ (U.take (i + 1) ++ (V.drop (i + 1) ++ S))))) := by
  intro L
  have hu := List.getElem?_eq_some_iff.1 hs
  have hv := List.getElem?_eq_some_iff.1 ht
  have eu : U.drop i = s :: U.drop (i + 1) := by rw [List.drop_eq_getElem_cons hu.1, hu.2]
  have ev : V.drop i = t :: V.drop (i + 1) := by rw [List.drop_eq_getElem_cons hv.1, hv.2]
  have tu : U.take (i + 1) = U.take i ++ [s] := by rw [List.take_succ_eq_append_getElem hu.1, hu.2]
  have tv : V.take (i + 1) = V.take i ++ [t] := by rw [List.take_succ_eq_append_getElem hv.1, hv.2]
  have lu : (U.take i).length = i := by rw [List.length_take]; omega
  have lv : (V.take i).length = i := by rw [List.length_take]; omega
  have ld : (U.drop (i + 1)).length = k - (i + 1) := by rw [List.length_drop]; omega
  have eL : L = (P ++ V.take i) ++ s :: (U.drop (i + 1) ++ (Q ++ (U.take i ++ t :: (V.drop (i + 1) ++ S)))) := by
    show P ++ (V.take i ++ (U.drop i ++ (Q ++ (U.take i ++ (V.drop i ++ S))))) = _
    rw [eu, ev]; simp
  have eM : L = (P ++ (V.take i ++ (s :: U.drop (i + 1) ++ (Q ++ U.take i)))) ++ t :: (V.drop (i + 1) ++ S) := by
    rw [eL]; simp
  have h1 : (P ++ V.take i).length = a + i := by rw [List.length_append, lv, hP]
  have h2 : ∀ x : TV, (P ++ (V.take i ++ (x :: U.drop (i + 1) ++ (Q ++ U.take i)))).length = b + i := fun x => by
    simp only [List.length_append, List.length_cons, lv, lu, ld]
    omega
  refine ⟨?_, ?_, ?_⟩
  · rw [eL]; exact at_len _ _ _ _ h1
  · rw [eM]; exact at_len _ _ _ _ (h2 s)
  · rw [eL, set_len _ _ _ _ _ h1]
    have eN : (P ++ V.take i) ++ t :: (U.drop (i + 1) ++ (Q ++ (U.take i ++ t :: (V.drop (i + 1) ++ S)))) = (P ++ (V.take i ++ (t :: U.drop (i + 1) ++ (Q ++ U.take i)))) ++ t :: (V.drop (i + 1) ++ S) := by simp
    rw [eN, set_len _ _ _ _ _ (h2 t), tu, tv]
    simp

set_option maxRecDepth 100000 in
set_option maxHeartbeats 2000000 in
theorem swapRange_any (g cap a b k n : Nat) (P U Q V S : List TV) (w : World) (h : Terms w g (P ++ (U ++ (Q ++ (V ++ S))))) (hn : (P ++ (U ++ (Q ++ (V ++ S)))).length = n) (hP : P.length = a) (hb : P.length + U.length + Q.length = b) (hU : U.length = k) (hV : V.length = k) (_hcap : n ≤ cap) (_hbd : cap ≤ 9223372036854775807) (hnb : n ≤ 1099511627776) :
    Calls Tryz.prog 112 #[.slice (some ⟨g, 0, none⟩) n cap, .int .i64 a, .int .i64 b, .int .i64 k, .func (.func 29) #[] #[]] w (TurnP g (P ++ (V ++ (Q ++ (U ++ S)))) w) := by
  have hbn : b + k ≤ n := by simp at hn; omega
  have hab : a + k ≤ b := by omega
  have HN := Lib.hid hn
  have HP := Lib.hid hP
  have HB := Lib.hid hb
  have HU := Lib.hid hU
  have HV := Lib.hid hV
  clear hn hP hb hU hV
  go_enter Tryz.func112, Tryz.ntmps112
  go_wp2
  go_loopw [10] (fun i wr => ∃ j : Nat, j ≤ k ∧ i = .int .i64 j ∧ Terms wr g (P ++ (V.take j ++ (U.drop j ++ (Q ++ (U.take j ++ (V.drop j ++ S)))))) ∧ Hid (Only g w wr)) (fun i _ => (k - (intOf i).toNat))
  case atStart => exact ⟨0, by omega, rfl, by simpa using h, Lib.hid (Only.refl _ _)⟩
  case round =>
    obtain ⟨j, hj, rfl, hT, HO⟩ := hrel
    by_cases hlt : j < k
    · obtain ⟨s, hs⟩ : ∃ s, U[j]? = some s := ⟨_, List.getElem?_eq_getElem (by rw [HU.out]; exact hlt)⟩
      obtain ⟨t, ht⟩ : ∃ t, V[j]? = some t := ⟨_, List.getElem?_eq_getElem (by rw [HV.out]; exact hlt)⟩
      obtain ⟨e1, e2, e3⟩ := range_step (S := S) HP.out HB.out HU.out HV.out hlt hs ht
      obtain ⟨c0, c1, c2, c3, c4, c5⟩ := hT.six e1
      obtain ⟨d0, d1, d2, d3, d4, d5⟩ := hT.six e2
      have hsw := hT.swap2 (s := s) (t := t) (List.getElem?_eq_some_iff.1 e1).1 (List.getElem?_eq_some_iff.1 e2).1
      rw [e3] at hsw
      have HS := Lib.hid hsw
      have HO2 := Lib.hid ((HO.out.set6 (i := (a + j) * 6) (.bool t.neg) (.slice t.A t.n t.c) (.int .i64 t.e.1) (.int .i64 t.e.2.1) (.int .i64 t.e.2.2.1) (.int .i64 t.e.2.2.2)).set6 (i := (b + j) * 6) (.bool s.neg) (.slice s.A s.n s.c) (.int .i64 s.e.1) (.int .i64 s.e.2.1) (.int .i64 s.e.2.2.1) (.int .i64 s.e.2.2.2))
      have f0 := hT.frozen
      clear e1 e2 e3 hsw hT hs ht h
      have p1 : (0 : Int) ≤ (a : Int) + (j : Int) := by omega
      have p2 : (a : Int) + (j : Int) < (n : Int) := by omega
      have q1 : (0 : Int) ≤ (b : Int) + (j : Int) := by omega
      have q2 : (b : Int) + (j : Int) < (n : Int) := by omega
      have p3 : IntKind.i64.wrap ((a : Int) + (j : Int)) = (a : Int) + (j : Int) := IntWalk.i64_in _ (by omega)
      have q3 : IntKind.i64.wrap ((b : Int) + (j : Int)) = (b : Int) + (j : Int) := IntWalk.i64_in _ (by omega)
      have p4 : ((a : Int) + (j : Int)).toNat = a + j := by omega
      have q4 : ((b : Int) + (j : Int)).toNat = b + j := by omega
      go_wp2
      go_region
      go_wp2
      go_roundw
      case rel => exact ⟨j + 1, by omega, by go_num, HS.out.drew, Lib.hid HO2.out.drew⟩
      case measure => simp [intOf]; omega
    · obtain rfl : j = k := by omega
      have hT2 := hT
      rw [List.take_of_length_le (by rw [HV.out]; exact Nat.le_refl _), List.take_of_length_le (by rw [HU.out]; exact Nat.le_refl _), List.drop_eq_nil_of_le (by rw [HU.out]; exact Nat.le_refl _), List.drop_eq_nil_of_le (by rw [HV.out]; exact Nat.le_refl _)] at hT2
      have HT := Lib.hid hT2
      clear hT hT2 h
      go_wp2
      go_end0
      exact ⟨rfl, by simpa using HT.out, HO.out⟩

theorem turnP_trans {g : Nat} {L : List TV} {w w1 : World} {e : Ending} {w' : World} (h : TurnP g L w1 e w') (k : Only g w w1) : TurnP g L w e w' := ⟨h.1, h.2.1, k.trans h.2.2⟩

set_option maxRecDepth 100000 in
set_option maxHeartbeats 2000000 in
theorem rotate_any (g cap a m b n : Nat) (P U V S : List TV) (w : World) (h : Terms w g (P ++ (U ++ (V ++ S)))) (hn : (P ++ (U ++ (V ++ S))).length = n) (hP : P.length = a) (hU : P.length + U.length = m) (hV : P.length + U.length + V.length = b) (hU0 : 0 < U.length) (hV0 : 0 < V.length) (hcap : n ≤ cap) (hbd : cap ≤ 9223372036854775807) (hnb : n ≤ 1099511627776) :
    Calls Tryz.prog 101 #[.slice (some ⟨g, 0, none⟩) n cap, .int .i64 a, .int .i64 m, .int .i64 b, .func (.func 29) #[] #[]] w (TurnP g (P ++ (V ++ (U ++ S))) w) := by
  have hbn : b ≤ n := by simp at hn; omega
  have ham : a < m := by omega
  have hmb : m < b := by omega
  have HI := Lib.hid (show U.length = m - a ∧ V.length = b - m by omega)
  have HN := Lib.hid hn
  have HP := Lib.hid hP
  have HU := Lib.hid hU
  clear hn hP hU hV hU0 hV0
  have s1 : (m : Int) - (a : Int) = ((m - a : Nat) : Int) := by omega
  have s2 : (b : Int) - (m : Int) = ((b - m : Nat) : Int) := by omega
  go_enter Tryz.func101, Tryz.ntmps101
  go_wp2
  go_loopw [10, 11] (fun vi vj wr => ∃ (i j : Nat) (L U' V' R : List TV), 0 < i ∧ 0 < j ∧ i ≤ m ∧ m + j ≤ b ∧ vi = .int .i64 i ∧ vj = .int .i64 j ∧ Terms wr g (P ++ (L ++ (U' ++ (V' ++ (R ++ S))))) ∧ Hid (U'.length = i ∧ V'.length = j ∧ P.length + L.length + U'.length = m ∧ V ++ U = L ++ (V' ++ (U' ++ R)) ∧ Only g w wr)) (fun vi vj _ => (intOf vi).toNat + (intOf vj).toNat)
  case atStart => exact ⟨m - a, b - m, [], U, V, [], by omega, by omega, by omega, by omega, by simp, by simp, by simpa using h, Lib.hid ⟨HI.out.1, HI.out.2, by simpa using HU.out, by simp, Only.refl _ _⟩⟩
  case round =>
    obtain ⟨i, j, L, U', V', R, hi, hj, him, hjb, rfl, rfl, hT, HX⟩ := hrel
    have hln : (P ++ (L ++ (U' ++ (V' ++ (R ++ S))))).length = n := by
      have h1 := HX.out.2.2.2.1
      have h2 := congrArg List.length h1
      have h3 := HN.out
      simp at h2 h3 ⊢
      omega
    have HL := Lib.hid hln
    clear hln h
    rcases Nat.lt_trichotomy i j with hij | hij | hij
    · obtain ⟨V1, V2, rfl, hl1⟩ : ∃ V1 V2, V' = V1 ++ V2 ∧ V2.length = i := ⟨V'.take (j - i), V'.drop (j - i), (List.take_append_drop _ _).symm, by rw [List.length_drop, HX.out.2.1]; omega⟩
      have hV1 : V1.length = j - i := by have h1 := HX.out.2.1; simp at h1; omega
      have HC := Lib.hid (swapRange_any g cap (m - i) (m + j - i) i n (P ++ L) U' V1 V2 (R ++ S) wr (by simpa using hT) (by simpa using HL.out) (by have h1 := HX.out; simp; omega) (by have h1 := HX.out; simp at h1 ⊢; omega) HX.out.1 hl1 hcap hbd hnb)
      have HV1 := Lib.hid hV1
      have HL1 := Lib.hid hl1
      clear hV1 hl1 hT
      have e1 : (m : Int) - (i : Int) = ((m - i : Nat) : Int) := by omega
      have e2 : (m : Int) + (j : Int) - (i : Int) = ((m + j - i : Nat) : Int) := by omega
      have e3 : (j : Int) - (i : Int) = ((j - i : Nat) : Int) := by omega
      go_wp2_with fail
      refine HC.out.mono ?_
      rintro e w1 ⟨rfl, h1, h2⟩
      have H1 := Lib.hid h1
      have H2 := Lib.hid h2
      clear h1 h2
      go_wp2
      go_roundw
      case rel =>
        refine ⟨i, j - i, L, V2, V1, U' ++ R, hi, by omega, him, by omega, rfl, rfl, by simpa using H1.out, Lib.hid ⟨HL1.out, HV1.out, ?_, ?_, HX.out.2.2.2.2.trans H2.out⟩⟩
        · have h3 := HX.out; have h4 := HL1.out; omega
        · rw [HX.out.2.2.2.1]; simp
      case measure => simp [intOf]; omega
    · subst hij
      have HC := Lib.hid (swapRange_any g cap (m - i) m i n (P ++ L) U' [] V' (R ++ S) wr (by simpa using hT) (by simpa using HL.out) (by have h1 := HX.out; simp; omega) (by have h1 := HX.out; simp at h1 ⊢; omega) HX.out.1 HX.out.2.1 hcap hbd hnb)
      clear hT
      have e1 : (m : Int) - (i : Int) = ((m - i : Nat) : Int) := by omega
      go_wp2_with fail
      refine HC.out.mono ?_
      rintro e w1 ⟨rfl, h1, h2⟩
      have H1 := Lib.hid h1
      have H2 := Lib.hid h2
      clear h1 h2
      go_wp2
      go_end0
      refine ⟨rfl, ?_, HX.out.2.2.2.2.trans H2.out⟩
      have h3 := H1.out
      have h4 := HX.out.2.2.2.1
      have e : P ++ (V ++ (U ++ S)) = P ++ L ++ (V' ++ ([] ++ (U' ++ (R ++ S)))) := by
        rw [← List.append_assoc V U S, h4]; simp
      rw [e]; exact h3
    · obtain ⟨U1, U2, rfl, hl1⟩ : ∃ U1 U2, U' = U1 ++ U2 ∧ U1.length = j := ⟨U'.take j, U'.drop j, (List.take_append_drop _ _).symm, by rw [List.length_take, HX.out.1]; omega⟩
      have hU2 : U2.length = i - j := by have h1 := HX.out.1; simp at h1; omega
      have HC := Lib.hid (swapRange_any g cap (m - i) m j n (P ++ L) U1 U2 V' (R ++ S) wr (by simpa using hT) (by simpa using HL.out) (by have h1 := HX.out; simp at h1 ⊢; omega) (by have h1 := HX.out; simp at h1 ⊢; omega) hl1 HX.out.2.1 hcap hbd hnb)
      have HU2 := Lib.hid hU2
      have HL1 := Lib.hid hl1
      clear hU2 hl1 hT
      have e1 : (m : Int) - (i : Int) = ((m - i : Nat) : Int) := by omega
      have e3 : (i : Int) - (j : Int) = ((i - j : Nat) : Int) := by omega
      go_wp2_with fail
      refine HC.out.mono ?_
      rintro e w1 ⟨rfl, h1, h2⟩
      have H1 := Lib.hid h1
      have H2 := Lib.hid h2
      clear h1 h2
      go_wp2
      go_roundw
      case rel =>
        refine ⟨i - j, j, L ++ V', U2, U1, R, by omega, hj, by omega, hjb, rfl, rfl, by simpa using H1.out, Lib.hid ⟨HU2.out, HL1.out, ?_, ?_, HX.out.2.2.2.2.trans H2.out⟩⟩
        · have h3 := HX.out; have h4 := HU2.out; have h5 := HL1.out; simp at h3 ⊢; omega
        · rw [HX.out.2.2.2.1]; simp
      case measure => simp [intOf]; omega
end Go.Proofs.YtnknidfpkmnncaaGreat
/- The library's symMerge over terms: two sorted stretches become one. -/
namespace Go.Proofs.YtnknidfpkmnncaaGreat
open Go.RowKit

/-- The twelve cells of two terms. -/
abbrev HeldXY (w' : World) (g x y : Nat) (t s : TV) : Prop :=
  w'.cell? ⟨g, x * 6, none⟩ = some (.bool t.neg) ∧ w'.cell? ⟨g, x * 6 + 1, none⟩ = some (.slice t.A t.n t.c) ∧ w'.cell? ⟨g, x * 6 + 2, none⟩ = some (.int .i64 t.e.1) ∧ w'.cell? ⟨g, x * 6 + 3, none⟩ = some (.int .i64 t.e.2.1) ∧ w'.cell? ⟨g, x * 6 + 4, none⟩ = some (.int .i64 t.e.2.2.1) ∧ w'.cell? ⟨g, x * 6 + 5, none⟩ = some (.int .i64 t.e.2.2.2) ∧
  w'.cell? ⟨g, y * 6, none⟩ = some (.bool s.neg) ∧ w'.cell? ⟨g, y * 6 + 1, none⟩ = some (.slice s.A s.n s.c) ∧ w'.cell? ⟨g, y * 6 + 2, none⟩ = some (.int .i64 s.e.1) ∧ w'.cell? ⟨g, y * 6 + 3, none⟩ = some (.int .i64 s.e.2.1) ∧ w'.cell? ⟨g, y * 6 + 4, none⟩ = some (.int .i64 s.e.2.2.1) ∧ w'.cell? ⟨g, y * 6 + 5, none⟩ = some (.int .i64 s.e.2.2.2)
theorem Terms.heldXY {w : World} {g x y : Nat} {L : List TV} {t s : TV} (h : Terms w g L) (ht : L[x]? = some t) (hs : L[y]? = some s) : HeldXY w g x y t s := by
  obtain ⟨c0, c1, c2, c3, c4, c5⟩ := h.six ht
  obtain ⟨d0, d1, d2, d3, d4, d5⟩ := h.six hs
  exact ⟨c0, c1, c2, c3, c4, c5, d0, d1, d2, d3, d4, d5⟩
theorem at_mid {α : Type} (P : List α) (x : α) (Y S : List α) (k a : Nat) (y : α) (hP : P.length = a) (hk : Y[k]? = some y) : (P ++ x :: (Y ++ S))[a + 1 + k]? = some y := by
  subst hP
  rw [List.getElem?_append_right (by omega), show P.length + 1 + k - P.length = k + 1 by omega, List.getElem?_cons_succ, List.getElem?_append_left (List.getElem?_eq_some_iff.1 hk).1, hk]
theorem sorted_at {α : Type} {r : α → α → Prop} {Y : List α} (hs : Y.Pairwise r) {i j : Nat} {s t : α} (hi : Y[i]? = some s) (hj : Y[j]? = some t) (h : i < j) : r s t := by
  have h1 := List.getElem?_eq_some_iff.1 hi
  have h2 := List.getElem?_eq_some_iff.1 hj
  have h3 := (List.pairwise_iff_getElem.1 hs) i j h1.1 h2.1 h
  rw [h1.2, h2.2] at h3
  exact h3
theorem Desc.refl' (t : TV) : Desc t t := by
  unfold Desc
  rw [cmpE_zero.2 rfl]; exact Int.le_refl _
theorem desc_of_neg {x y : TV} (h : cmpE x.e y.e < 0) : Desc y x := by
  unfold Desc
  have := cmpE_neg x.e y.e
  omega
theorem desc_of_nonneg {x y : TV} (h : ¬ cmpE x.e y.e < 0) : Desc x y := by
  unfold Desc
  omega

set_option maxRecDepth 100000 in
set_option maxHeartbeats 2000000 in
theorem merge_first (g cap a m b n : Nat) (P Y S : List TV) (x : TV) (w : World) (h : Terms w g (P ++ x :: (Y ++ S))) (hn : (P ++ x :: (Y ++ S)).length = n) (hP : P.length = a) (hm : a + 1 = m) (hY : m + Y.length = b) (hs : Y.Pairwise Desc) (_hcap : n ≤ cap) (_hbd : cap ≤ 9223372036854775807) (hnb : n ≤ 1099511627776) :
    Calls Tryz.prog 81 #[.slice (some ⟨g, 0, none⟩) n cap, .int .i64 a, .int .i64 m, .int .i64 b, .func (.func 29) #[] #[]] w (SortP g P (x :: Y) S w) := by
  have hbn : b ≤ n := by simp at hn; omega
  have hmb : m ≤ b := by omega
  have HN := Lib.hid hn
  have HP := Lib.hid hP
  have HY := Lib.hid hY
  have HS := Lib.hid hs
  have s1 : (m : Int) - (a : Int) = 1 := by omega
  have ham : a + 1 ≤ m := by omega
  have HM := Lib.hid hm
  clear hn hP hY hs hm
  go_enter Tryz.func81, Tryz.ntmps81
  go_wp2_with fail
  go_loopw [10, 11] (fun vi vj wr => ∃ i j : Nat, m ≤ i ∧ i ≤ j ∧ j ≤ b ∧ vi = .int .i64 i ∧ vj = .int .i64 j ∧ Terms wr g (P ++ x :: (Y ++ S)) ∧ Hid ((∀ k y, m + k < i → Y[k]? = some y → Desc y x) ∧ (∀ k y, j ≤ m + k → Y[k]? = some y → Desc x y) ∧ Only g w wr)) (fun vi vj _ => ((intOf vj).toNat - (intOf vi).toNat))
  case atStart => 
    refine ⟨m, b, Nat.le_refl _, by omega, Nat.le_refl _, rfl, rfl, h, Lib.hid ⟨fun k y hk => by omega, fun k y hk hy => ?_, Only.refl _ _⟩⟩
    have h1 := (List.getElem?_eq_some_iff.1 hy).1
    have h2 := HY.out
    omega
  case round =>
    obtain ⟨i, j, hmi, hij, hjb, rfl, rfl, hT, HX⟩ := hrel
    clear h
    by_cases hlt : i < j
    · obtain ⟨q, hq1, hq2⟩ : ∃ q, m + q = (i + j) / 2 ∧ m + q < j := ⟨(i + j) / 2 - m, by omega, by omega⟩
      have hqi : i ≤ m + q := by omega
      obtain ⟨y, hy⟩ : ∃ y, Y[q]? = some y := ⟨_, List.getElem?_eq_getElem (by have := HY.out; omega)⟩
      have hy2 : (P ++ x :: (Y ++ S))[m + q]? = some y := by
        rw [← HM.out]; exact at_mid P x Y S q a y HP.out hy
      have hx2 : (P ++ x :: (Y ++ S))[a]? = some x := at_len _ _ _ _ HP.out
      have HXX := Lib.hid hx2
      have HYY := Lib.hid hy2
      have HYQ := Lib.hid hy
      have hS := hT.heldXY hy2 hx2
      have hMd := hT.drew
      have hO := HX.out.2.2.drew
      clear hx2 hy2 hy hT
      have e1 : ((i : Int) + (j : Int)) / 2 = ((m + q : Nat) : Int) := by omega
      obtain ⟨hh, hhq⟩ : ∃ hh, hh = m + q := ⟨_, rfl⟩
      rw [← hhq] at e1 HYY hS hq2 hqi
      have HHQ := Lib.hid hhq
      clear hhq hq1
      have i0 : (0 : Int) ≤ (hh : Int) := by omega
      have i1 : (hh : Int) < (n : Int) := by omega
      have i2 : (0 : Int) ≤ (a : Int) := by omega
      have i3 : (a : Int) < (n : Int) := by omega
      go_wp2_with fail
      go_region_held3 (fun w' => HeldXY w' g hh a y x) (first | exact hS | exact hS1 | go_keep)
        (first
          | (go_at_call 29; ((with_reducible refine (cmp46_any _ _ _ _ _ _ _ _ y.e x.e _).mono ?_); rintro e w1 ⟨rfl, hb1⟩; have hM1 := hMd.below hb1; have hS1 := hM1.heldXY HYY.out HXX.out; have hO1 := hO.below hb1 (Nat.le_refl _))))
      have HO1 := Lib.hid hO1
      have HM1 := Lib.hid hM1
      clear hS hS1 hMd hO hM1 hb1 hO1 e1
      by_cases hcmp : cmpE x.e y.e < 0
      · have HC := Lib.hid (desc_of_neg hcmp)
        go_wp2
        go_roundw
        case rel => exact ⟨hh + 1, j, by omega, by omega, hjb, by go_num, rfl, HM1.out, Lib.hid ⟨fun k y' hk hy' => by
          have h1 := HHQ.out
          rcases Nat.lt_or_ge k q with h2 | h2
          · exact Desc.trans _ _ _ (sorted_at HS.out hy' HYQ.out h2) HC.out
          · obtain rfl : k = q := by omega
            have h3 := HYQ.out
            rw [hy'] at h3
            injection h3 with h3
            rw [h3]; exact HC.out, HX.out.2.1, HO1.out⟩⟩
        case measure => simp [intOf]; omega
      · have HC := Lib.hid (desc_of_nonneg hcmp)
        go_wp2
        go_roundw
        case rel => exact ⟨i, hh, hmi, by omega, by omega, rfl, rfl, HM1.out, Lib.hid ⟨HX.out.1, fun k y' hk hy' => by
          have h1 := HHQ.out
          rcases Nat.lt_or_ge q k with h2 | h2
          · exact Desc.trans _ _ _ HC.out (sorted_at HS.out HYQ.out hy' h2)
          · obtain rfl : k = q := by omega
            have h3 := HYQ.out
            rw [hy'] at h3
            injection h3 with h3
            rw [h3]; exact HC.out, HO1.out⟩⟩
        case measure => simp [intOf]; omega
    · obtain rfl : i = j := by omega
      obtain ⟨q, hq⟩ : ∃ q, q + 1 = i := ⟨i - 1, by omega⟩
      have e1 : (i : Int) - 1 = (q : Int) := by omega
      have haq : a ≤ q := by omega
      have hqb : q < b := by omega
      have HQ := Lib.hid hq
      clear hq
      go_wp2
      go_loopw [13] (fun vk wr => ∃ k : Nat, a ≤ k ∧ k ≤ q ∧ vk = .int .i64 k ∧ Terms wr g (P ++ (Y.take (k - a) ++ x :: (Y.drop (k - a) ++ S))) ∧ Hid (Only g w wr)) (fun vk _ => (q - (intOf vk).toNat))
      case atStart => exact ⟨a, Nat.le_refl _, haq, rfl, by simpa using hT, Lib.hid HX.out.2.2⟩
      case round =>
        clear hT
        obtain ⟨k, hak, hkq, rfl, hT, HO⟩ := hrel
        by_cases hlt2 : k < q
        · obtain ⟨y, hy⟩ : ∃ y, Y[k - a]? = some y := ⟨_, List.getElem?_eq_getElem (by have := HY.out; have := HM.out; omega)⟩
          have hyl := (List.getElem?_eq_some_iff.1 hy).1
          have eU : (P ++ Y.take (k - a)).length = k := by rw [List.length_append, HP.out, List.length_take]; omega
          have ed : Y.drop (k - a) = y :: Y.drop (k + 1 - a) := by
            rw [List.drop_eq_getElem_cons hyl, (List.getElem?_eq_some_iff.1 hy).2, show k - a + 1 = k + 1 - a by omega]
          have et : Y.take (k + 1 - a) = Y.take (k - a) ++ [y] := by
            rw [show k + 1 - a = k - a + 1 by omega, List.take_succ_eq_append_getElem hyl, (List.getElem?_eq_some_iff.1 hy).2]
          have hT2 : Terms wr g ((P ++ Y.take (k - a)) ++ x :: y :: (Y.drop (k + 1 - a) ++ S)) := by
            rw [ed] at hT
            simpa using hT
          obtain ⟨c0, c1, c2, c3, c4, c5⟩ := hT2.six (at_len _ x _ k eU)
          obtain ⟨d0, d1, d2, d3, d4, d5⟩ := hT2.six (at_len1 _ x y _ k eU)
          have hsw := hT2.swap2 (x := k) (y := k + 1) (s := x) (t := y) (by rw [List.length_append, eU]; simp) (by rw [List.length_append, eU]; simp)
          have e3 : (((P ++ Y.take (k - a)) ++ x :: y :: (Y.drop (k + 1 - a) ++ S)).set k y).set (k + 1) x = P ++ (Y.take (k + 1 - a) ++ x :: (Y.drop (k + 1 - a) ++ S)) := by
            rw [set_len _ _ _ _ _ eU, et]
            have e4 : (P ++ Y.take (k - a)) ++ y :: y :: (Y.drop (k + 1 - a) ++ S) = (P ++ Y.take (k - a) ++ [y]) ++ y :: (Y.drop (k + 1 - a) ++ S) := by simp
            rw [e4, set_len _ _ _ _ (k + 1) (by rw [List.length_append, eU]; rfl)]
            simp
          rw [e3] at hsw
          have HSW := Lib.hid hsw
          have HO2 := Lib.hid ((HO.out.set6 (i := k * 6) (.bool y.neg) (.slice y.A y.n y.c) (.int .i64 y.e.1) (.int .i64 y.e.2.1) (.int .i64 y.e.2.2.1) (.int .i64 y.e.2.2.2)).set6 (i := (k + 1) * 6) (.bool x.neg) (.slice x.A x.n x.c) (.int .i64 x.e.1) (.int .i64 x.e.2.1) (.int .i64 x.e.2.2.1) (.int .i64 x.e.2.2.2))
          have f0 := hT2.frozen
          clear hT hT2 hsw hy hyl eU ed et e3
          have p1 : (0 : Int) ≤ (k : Int) := by omega
          have p2 : (k : Int) < (n : Int) := by omega
          have p3 : (0 : Int) ≤ (k : Int) + 1 := by omega
          have p4 : (k : Int) + 1 < (n : Int) := by omega
          have p5 : IntKind.i64.wrap ((k : Int) + 1) = (k : Int) + 1 := IntWalk.i64_in _ (by omega)
          have p6 : ((k : Int) + 1).toNat = k + 1 := by omega
          go_wp2
          go_region
          go_wp2
          go_roundw
          case rel => exact ⟨k + 1, by omega, by omega, by go_num, HSW.out.drew, Lib.hid HO2.out.drew⟩
          case measure => simp [intOf]; omega
        · obtain rfl : k = q := by omega
          have HF := Lib.hid hT
          clear hT
          go_wp2
          go_end0
          refine ⟨rfl, Y.take (k - a) ++ x :: Y.drop (k - a), ?_, ?_, by simpa using HF.out, HO.out⟩
          · refine List.perm_middle.trans ?_
            rw [List.take_append_drop]
          · have h1 := HX.out
            have h2 := HM.out
            have h3 := HQ.out
            refine insert_sorted Desc.trans (by rw [List.take_append_drop]; exact HS.out) (fun y hy => ?_) (fun Z s hZ => ?_)
            · obtain ⟨l, hl⟩ := List.getElem?_of_mem hy
              rw [List.getElem?_drop] at hl
              exact h1.2.1 _ y (by omega) hl
            · have hs9 : s ∈ Y.take (k - a) := by rw [hZ]; simp
              obtain ⟨l, hl⟩ := List.getElem?_of_mem hs9
              rw [List.getElem?_take] at hl
              split at hl
              · exact h1.1 l s (by omega) hl
              · cases hl
end Go.Proofs.YtnknidfpkmnncaaGreat
/- symMerge where the second stretch is one term. -/
namespace Go.Proofs.YtnknidfpkmnncaaGreat
open Go.RowKit

theorem at_first {α : Type} (P X R : List α) (k a : Nat) (x : α) (hP : P.length = a) (hk : X[k]? = some x) : (P ++ (X ++ R))[a + k]? = some x := by
  subst hP
  rw [List.getElem?_append_right (by omega), show P.length + k - P.length = k by omega, List.getElem?_append_left (List.getElem?_eq_some_iff.1 hk).1, hk]

set_option maxRecDepth 100000 in
set_option maxHeartbeats 2000000 in
theorem merge_last (g cap a m b n : Nat) (P X S : List TV) (y : TV) (w : World) (h : Terms w g (P ++ (X ++ y :: S))) (hn : (P ++ (X ++ y :: S)).length = n) (hP : P.length = a) (hX : a + X.length = m) (hm : m + 1 = b) (h1 : X.length ≠ 1) (hs : X.Pairwise Desc) (_hcap : n ≤ cap) (_hbd : cap ≤ 9223372036854775807) (hnb : n ≤ 1099511627776) :
    Calls Tryz.prog 81 #[.slice (some ⟨g, 0, none⟩) n cap, .int .i64 a, .int .i64 m, .int .i64 b, .func (.func 29) #[] #[]] w (SortP g P (X ++ [y]) S w) := by
  have hbn : b ≤ n := by simp at hn; omega
  have hmb : m < b := by omega
  have ham : a ≤ m := by omega
  have HN := Lib.hid hn
  have HP := Lib.hid hP
  have HX := Lib.hid hX
  have HS := Lib.hid hs
  have HM := Lib.hid hm
  have t1 : ((m : Int) - (a : Int) == 1) = false := by rw [beq_eq_false_iff_ne]; omega
  have s1 : (b : Int) - (m : Int) = 1 := by omega
  clear hn hP hX hs hm h1
  go_enter Tryz.func81, Tryz.ntmps81
  go_wp2_with fail
  go_loopw [14, 15] (fun vi vj wr => ∃ i j : Nat, a ≤ i ∧ i ≤ j ∧ j ≤ m ∧ vi = .int .i64 i ∧ vj = .int .i64 j ∧ Terms wr g (P ++ (X ++ y :: S)) ∧ Hid ((∀ k x, a + k < i → X[k]? = some x → Desc x y) ∧ (∀ k x, j ≤ a + k → X[k]? = some x → Desc y x) ∧ Only g w wr)) (fun vi vj _ => ((intOf vj).toNat - (intOf vi).toNat))
  case atStart =>
    refine ⟨a, m, Nat.le_refl _, by omega, Nat.le_refl _, rfl, rfl, h, Lib.hid ⟨fun k y hk => by omega, fun k x hk hx => ?_, Only.refl _ _⟩⟩
    have h1 := (List.getElem?_eq_some_iff.1 hx).1
    have h2 := HX.out
    omega
  case round =>
    obtain ⟨i, j, hai, hij, hjm, rfl, rfl, hT, HV⟩ := hrel
    clear h
    by_cases hlt : i < j
    · obtain ⟨q, hq1, hq2⟩ : ∃ q, a + q = (i + j) / 2 ∧ a + q < j := ⟨(i + j) / 2 - a, by omega, by omega⟩
      have hqi : i ≤ a + q := by omega
      obtain ⟨x, hx⟩ : ∃ x, X[q]? = some x := ⟨_, List.getElem?_eq_getElem (by have := HX.out; omega)⟩
      have hx2 : (P ++ (X ++ y :: S))[a + q]? = some x := at_first P X _ q a x HP.out hx
      have hy2 : (P ++ (X ++ y :: S))[m]? = some y := by
        rw [← List.append_assoc]
        exact at_len _ _ _ _ (by rw [List.length_append, HP.out]; exact HX.out)
      have HXX := Lib.hid hx2
      have HYY := Lib.hid hy2
      have HXQ := Lib.hid hx
      have hS := hT.heldXY hy2 hx2
      have hMd := hT.drew
      have hO := HV.out.2.2.drew
      clear hx2 hy2 hx hT
      have e1 : ((i : Int) + (j : Int)) / 2 = ((a + q : Nat) : Int) := by omega
      obtain ⟨hh, hhq⟩ : ∃ hh, hh = a + q := ⟨_, rfl⟩
      rw [← hhq] at e1 HXX hS hq2 hqi
      have HHQ := Lib.hid hhq
      clear hhq hq1
      have i0 : (0 : Int) ≤ (hh : Int) := by omega
      have i1 : (hh : Int) < (n : Int) := by omega
      have i2 : (0 : Int) ≤ (m : Int) := by omega
      have i3 : (m : Int) < (n : Int) := by omega
      go_wp2_with fail
      go_region_held3 (fun w' => HeldXY w' g m hh y x) (first | exact hS | exact hS1 | go_keep)
        (first
          | (go_at_call 29; ((with_reducible refine (cmp46_any _ _ _ _ _ _ _ _ y.e x.e _).mono ?_); rintro e w1 ⟨rfl, hb1⟩; have hM1 := hMd.below hb1; have hS1 := hM1.heldXY HYY.out HXX.out; have hO1 := hO.below hb1 (Nat.le_refl _))))
      have HO1 := Lib.hid hO1
      have HM1 := Lib.hid hM1
      clear hS hS1 hMd hO hM1 hb1 hO1 e1
      by_cases hcmp : cmpE x.e y.e < 0
      · have HC := Lib.hid (desc_of_neg hcmp)
        have hdc : (!decide (cmpE x.e y.e < 0)) = false := by rw [decide_eq_true hcmp]; rfl
        clear hcmp
        rw [hdc]
        clear hdc
        go_wp2
        go_roundw
        case rel => exact ⟨i, hh, hai, by omega, by omega, rfl, rfl, HM1.out, Lib.hid ⟨HV.out.1, fun k y' hk hy' => by
          have h1 := HHQ.out
          rcases Nat.lt_or_ge q k with h2 | h2
          · exact Desc.trans _ _ _ HC.out (sorted_at HS.out HXQ.out hy' h2)
          · obtain rfl : k = q := by omega
            have h3 := HXQ.out
            rw [hy'] at h3
            injection h3 with h3
            rw [h3]; exact HC.out, HO1.out⟩⟩
        case measure => simp [intOf]; omega
      · have HC := Lib.hid (desc_of_nonneg hcmp)
        have hdc : (!decide (cmpE x.e y.e < 0)) = true := by rw [decide_eq_false hcmp]; rfl
        clear hcmp
        rw [hdc]
        clear hdc
        go_wp2
        go_roundw
        case rel => exact ⟨hh + 1, j, by omega, by omega, hjm, by go_num, rfl, HM1.out, Lib.hid ⟨fun k y' hk hy' => by
          have h1 := HHQ.out
          rcases Nat.lt_or_ge k q with h2 | h2
          · exact Desc.trans _ _ _ (sorted_at HS.out hy' HXQ.out h2) HC.out
          · obtain rfl : k = q := by omega
            have h3 := HXQ.out
            rw [hy'] at h3
            injection h3 with h3
            rw [h3]; exact HC.out, HV.out.2.1, HO1.out⟩⟩
        case measure => simp [intOf]; omega
    · obtain rfl : i = j := by omega
      go_wp2
      go_loopw [17] (fun vk wr => ∃ k : Nat, i ≤ k ∧ k ≤ m ∧ vk = .int .i64 k ∧ Terms wr g (P ++ (X.take (k - a) ++ y :: (X.drop (k - a) ++ S))) ∧ Hid (Only g w wr)) (fun vk _ => ((intOf vk).toNat))
      case atStart =>
        refine ⟨m, by omega, Nat.le_refl _, rfl, ?_, Lib.hid HV.out.2.2⟩
        have h2 := HX.out
        rw [List.take_of_length_le (by omega), List.drop_eq_nil_of_le (by omega)]
        simpa using hT
      case round =>
        clear hT
        obtain ⟨k, hik, hkm, rfl, hT, HO⟩ := hrel
        by_cases hlt2 : i < k
        · obtain ⟨l, rfl⟩ : ∃ l, k = l + 1 := ⟨k - 1, by omega⟩
          obtain ⟨x, hx⟩ : ∃ x, X[l - a]? = some x := ⟨_, List.getElem?_eq_getElem (by have := HX.out; omega)⟩
          have hxl := (List.getElem?_eq_some_iff.1 hx).1
          have eU : (P ++ X.take (l - a)).length = l := by rw [List.length_append, HP.out, List.length_take]; omega
          have ed : X.drop (l - a) = x :: X.drop (l + 1 - a) := by
            rw [List.drop_eq_getElem_cons hxl, (List.getElem?_eq_some_iff.1 hx).2, show l - a + 1 = l + 1 - a by omega]
          have et : X.take (l + 1 - a) = X.take (l - a) ++ [x] := by
            rw [show l + 1 - a = l - a + 1 by omega, List.take_succ_eq_append_getElem hxl, (List.getElem?_eq_some_iff.1 hx).2]
          have hT2 : Terms wr g ((P ++ X.take (l - a)) ++ x :: y :: (X.drop (l + 1 - a) ++ S)) := by
            rw [et] at hT
            simpa using hT
          obtain ⟨d0, d1, d2, d3, d4, d5⟩ := hT2.six (at_len _ x _ l eU)
          obtain ⟨c0, c1, c2, c3, c4, c5⟩ := hT2.six (at_len1 _ x y _ l eU)
          have hsw := hT2.swap eU
          have e3 : (P ++ X.take (l - a)) ++ y :: x :: (X.drop (l + 1 - a) ++ S) = P ++ (X.take (l - a) ++ y :: (X.drop (l - a) ++ S)) := by
            rw [ed]; simp
          rw [e3] at hsw
          have HSW := Lib.hid hsw
          have HO2 := Lib.hid ((HO.out.set6 (i := (l + 1) * 6) (.bool x.neg) (.slice x.A x.n x.c) (.int .i64 x.e.1) (.int .i64 x.e.2.1) (.int .i64 x.e.2.2.1) (.int .i64 x.e.2.2.2)).set6 (i := l * 6) (.bool y.neg) (.slice y.A y.n y.c) (.int .i64 y.e.1) (.int .i64 y.e.2.1) (.int .i64 y.e.2.2.1) (.int .i64 y.e.2.2.2))
          have f0 := hT2.frozen
          clear hT hT2 hsw hx hxl eU ed et e3
          rw [show ((l + 1 : Nat) : Int) = (l : Int) + 1 from by omega]
          have p1 : (0 : Int) ≤ (l : Int) := by omega
          have p2 : (l : Int) < (n : Int) := by omega
          have p3 : (0 : Int) ≤ (l : Int) + 1 := by omega
          have p4 : (l : Int) + 1 < (n : Int) := by omega
          have p5 : IntKind.i64.wrap ((l : Int) + 1) = (l : Int) + 1 := IntWalk.i64_in _ (by omega)
          have p6 : ((l : Int) + 1).toNat = l + 1 := by omega
          have p7 : IntKind.i64.wrap (l : Int) = (l : Int) := IntWalk.i64_in _ (by omega)
          have p8 : (i : Int) < (l : Int) + 1 := by omega
          go_wp2
          go_region
          go_wp2
          go_roundw
          case rel => exact ⟨l, by omega, by omega, by go_num, HSW.out.drew, Lib.hid HO2.out.drew⟩
          case measure => simp [intOf]
        · obtain rfl : i = k := by omega
          have HF := Lib.hid hT
          clear hT
          go_wp2
          go_end0
          refine ⟨rfl, X.take (i - a) ++ y :: X.drop (i - a), ?_, ?_, by simpa using HF.out, HO.out⟩
          · refine List.perm_middle.trans ?_
            rw [List.take_append_drop]
            exact (List.perm_append_singleton y X).symm
          · have h1 := HV.out
            refine insert_sorted Desc.trans (by rw [List.take_append_drop]; exact HS.out) (fun x hx => ?_) (fun Z s hZ => ?_)
            · obtain ⟨l, hl⟩ := List.getElem?_of_mem hx
              rw [List.getElem?_drop] at hl
              exact h1.2.1 _ x (by omega) hl
            · have hs9 : s ∈ X.take (i - a) := by rw [hZ]; simp
              obtain ⟨l, hl⟩ := List.getElem?_of_mem hs9
              rw [List.getElem?_take] at hl
              split at hl
              · exact h1.1 l s (by omega) hl
              · cases hl
end Go.Proofs.YtnknidfpkmnncaaGreat
/- symMerge, any two sorted stretches. -/
namespace Go.Proofs.YtnknidfpkmnncaaGreat
open Go.RowKit

theorem merge_parts {X Y M1 M2 : List TV} {x y : Nat} (hX : X.Pairwise Desc) (hY : Y.Pairwise Desc) (hA : ∀ s t, s ∈ X.take x → t ∈ Y.drop y → Desc s t) (hB : ∀ s t, s ∈ X.drop x → t ∈ Y.take y → Desc t s)
    (p1 : M1.Perm (X.take x ++ Y.take y)) (s1 : M1.Pairwise Desc) (p2 : M2.Perm (X.drop x ++ Y.drop y)) (s2 : M2.Pairwise Desc) : (M1 ++ M2).Perm (X ++ Y) ∧ (M1 ++ M2).Pairwise Desc := by
  have ex := List.take_append_drop x X
  have ey := List.take_append_drop y Y
  constructor
  · refine (p1.append p2).trans ?_
    have h1 : (X.take x ++ Y.take y ++ (X.drop x ++ Y.drop y)).Perm (X.take x ++ X.drop x ++ (Y.take y ++ Y.drop y)) := by
      rw [List.append_assoc, List.append_assoc]
      refine List.Perm.append_left _ ?_
      rw [← List.append_assoc, ← List.append_assoc]
      exact List.Perm.append_right _ List.perm_append_comm
    rwa [ex, ey] at h1
  · rw [List.pairwise_append]
    refine ⟨s1, s2, fun s hs t ht => ?_⟩
    have hs := List.mem_append.1 (p1.mem_iff.1 hs)
    have ht := List.mem_append.1 (p2.mem_iff.1 ht)
    rw [← ex] at hX
    rw [← ey] at hY
    have q1 := (List.pairwise_append.1 hX).2.2
    have q2 := (List.pairwise_append.1 hY).2.2
    rcases hs with hs | hs <;> rcases ht with ht | ht
    · exact q1 s hs t ht
    · exact hA s t hs ht
    · exact hB t s ht hs
    · exact q2 s hs t ht

/-- Where the search has come to, and what the two ends said. -/
def MSplit (_a _m _b nn lo hi i j : Nat) (L : List TV) : Prop :=
  (i = lo ∨ ∃ s t, L[i - 1]? = some s ∧ L[nn - i]? = some t ∧ Desc s t) ∧ (j = hi ∨ ∃ s t, L[j]? = some s ∧ L[nn - 1 - j]? = some t ∧ Desc t s)

theorem at_second {α : Type} (P X Y S : List α) (k m : Nat) (hm : P.length + X.length = m) (h1 : m ≤ k) (h2 : k < m + Y.length) : (P ++ (X ++ (Y ++ S)))[k]? = Y[k - m]? := by
  subst hm
  rw [List.getElem?_append_right (by omega), List.getElem?_append_right (by omega), List.getElem?_append_left (by omega)]
  congr 1
  omega
theorem at_one {α : Type} (P X R : List α) (k a : Nat) (hP : P.length = a) (h1 : a ≤ k) (h2 : k < a + X.length) : (P ++ (X ++ R))[k]? = X[k - a]? := by
  subst hP
  rw [List.getElem?_append_right (by omega), List.getElem?_append_left (by omega)]
theorem mem_take_le {α : Type} {X : List α} {s : α} {n : Nat} (h : s ∈ X.take n) : ∃ k, k < n ∧ X[k]? = some s := by
  obtain ⟨k, hk⟩ := List.getElem?_of_mem h
  rw [List.getElem?_take] at hk
  split at hk
  · exact ⟨k, ‹_›, hk⟩
  · cases hk
theorem mem_drop_ge {α : Type} {X : List α} {s : α} {n : Nat} (h : s ∈ X.drop n) : ∃ k, n ≤ k ∧ X[k]? = some s := by
  obtain ⟨k, hk⟩ := List.getElem?_of_mem h
  rw [List.getElem?_drop] at hk
  exact ⟨n + k, by omega, hk⟩
theorem desc_le {X : List TV} (hs : X.Pairwise Desc) {i j : Nat} {s t : TV} (hi : X[i]? = some s) (hj : X[j]? = some t) (h : i ≤ j) : Desc s t := by
  rcases Nat.lt_or_ge i j with h1 | h1
  · exact sorted_at hs hi hj h1
  · obtain rfl : i = j := by omega
    rw [hi] at hj
    injection hj with hj
    rw [hj]; exact Desc.refl' _
theorem lt_of_some {α : Type} {X : List α} {k : Nat} {s : α} (h : X[k]? = some s) : k < X.length := (List.getElem?_eq_some_iff.1 h).1

theorem msplit_done {a m b nn lo hi i : Nat} {P X Y S : List TV} (hP : P.length = a) (hm : a + X.length = m) (hb : m + Y.length = b) (hX : X.Pairwise Desc) (hY : Y.Pairwise Desc)
    (h : MSplit a m b nn lo hi i i (P ++ (X ++ (Y ++ S)))) (hlo : a ≤ lo) (hli : lo ≤ i) (hih : i ≤ hi) (hhm : hi ≤ m) (hn1 : m ≤ nn - hi) (hn2 : nn - lo ≤ b) (hn3 : hi ≤ nn) (hl : lo = a ∨ nn - lo = b) (hh : hi = m ∨ nn - hi = m) :
    (∀ s t, s ∈ X.take (i - a) → t ∈ Y.drop (nn - i - m) → Desc s t) ∧ (∀ s t, s ∈ X.drop (i - a) → t ∈ Y.take (nn - i - m) → Desc t s) := by
  constructor
  · intro s t hs ht
    obtain ⟨k, hk, hs⟩ := mem_take_le hs
    obtain ⟨l, hl1, ht⟩ := mem_drop_ge ht
    have b1 := lt_of_some hs
    have b2 := lt_of_some ht
    rcases h.1 with h1 | ⟨s', t', h1, h2, h3⟩
    · omega
    · rw [at_one P X _ (i - 1) a hP (by omega) (by omega)] at h1
      rw [at_second P X Y S (nn - i) m (by omega) (by omega) (by omega)] at h2
      exact Desc.trans _ _ _ (desc_le hX hs h1 (by omega)) (Desc.trans _ _ _ h3 (desc_le hY h2 ht (by omega)))
  · intro s t hs ht
    obtain ⟨k, hk, hs⟩ := mem_drop_ge hs
    obtain ⟨l, hl1, ht⟩ := mem_take_le ht
    have b1 := lt_of_some hs
    have b2 := lt_of_some ht
    rcases h.2 with h1 | ⟨s', t', h1, h2, h3⟩
    · omega
    · rw [at_one P X _ i a hP (by omega) (by omega)] at h1
      rw [at_second P X Y S (nn - 1 - i) m (by omega) (by omega) (by omega)] at h2
      exact Desc.trans _ _ _ (desc_le hY ht h2 (by omega)) (Desc.trans _ _ _ h3 (desc_le hX h1 hs (by omega)))

/-- The contract of the merging. -/
abbrev MergeC (K g cap n : Nat) : Prop := ∀ (a m b : Nat) (P X Y S : List TV) (w : World), b - a ≤ K → Terms w g (P ++ (X ++ (Y ++ S))) → (P ++ (X ++ (Y ++ S))).length = n → P.length = a → a + X.length = m → m + Y.length = b → 0 < X.length → 0 < Y.length → X.Pairwise Desc → Y.Pairwise Desc →
    Calls Tryz.prog 81 #[.slice (some ⟨g, 0, none⟩) n cap, .int .i64 a, .int .i64 m, .int .i64 b, .func (.func 29) #[] #[]] w (SortP g P (X ++ Y) S w)

set_option maxRecDepth 100000 in
set_option maxHeartbeats 4000000 in
theorem merge_step (K g cap n : Nat) (ih : MergeC K g cap n) (hcap : n ≤ cap) (hbd : cap ≤ 9223372036854775807) (hnb : n ≤ 1099511627776) (a m b : Nat) (P X Y S : List TV) (w : World) (hK : b - a ≤ K + 1) (h : Terms w g (P ++ (X ++ (Y ++ S)))) (hn : (P ++ (X ++ (Y ++ S))).length = n) (hP : P.length = a) (hX : a + X.length = m) (hY : m + Y.length = b) (hX1 : 1 < X.length) (hY1 : 1 < Y.length) (sX : X.Pairwise Desc) (sY : Y.Pairwise Desc) :
    Calls Tryz.prog 81 #[.slice (some ⟨g, 0, none⟩) n cap, .int .i64 a, .int .i64 m, .int .i64 b, .func (.func 29) #[] #[]] w (SortP g P (X ++ Y) S w) := by
  have hbn : b ≤ n := by simp at hn; omega
  obtain ⟨mid, hmid⟩ : ∃ mid, mid = (a + b) / 2 := ⟨_, rfl⟩
  obtain ⟨nn, hnn⟩ : ∃ nn, nn = mid + m := ⟨_, rfl⟩
  have g1 : a + 1 < m := by omega
  have g2 : m + 1 < b := by omega
  have g3 : a < mid := by omega
  have g4 : mid < b := by omega
  have g5 : 2 * mid ≤ a + b := by omega
  have g6 : a + b ≤ 2 * mid + 1 := by omega
  have HN := Lib.hid hn
  have HP := Lib.hid hP
  have HX := Lib.hid hX
  have HY := Lib.hid hY
  have SX := Lib.hid sX
  have SY := Lib.hid sY
  have IH := Lib.hid ih
  have HNN := Lib.hid hnn
  have t1 : ((m : Int) - (a : Int) == 1) = false := by rw [beq_eq_false_iff_ne]; omega
  have t2 : ((b : Int) - (m : Int) == 1) = false := by rw [beq_eq_false_iff_ne]; omega
  have e1 : ((a : Int) + (b : Int)) / 2 = (mid : Int) := by omega
  have e2 : (mid : Int) + (m : Int) = (nn : Int) := by omega
  obtain ⟨p, hp⟩ : ∃ p, p + 1 = nn := ⟨nn - 1, by omega⟩
  have e3 : (nn : Int) - 1 = (p : Int) := by omega
  obtain ⟨lo, hi, hlo, hl1, hl2, hl3, hl4, hl5, hl6, hl7, hl8⟩ : ∃ lo hi, (if mid < m then lo = nn - b ∧ hi = mid else lo = a ∧ hi = m) ∧ a ≤ lo ∧ lo ≤ hi ∧ hi ≤ m ∧ m ≤ nn - hi ∧ nn - lo ≤ b ∧ hi ≤ nn ∧ (lo = a ∨ nn - lo = b) ∧ (hi = m ∨ nn - hi = m) := by
    by_cases hm : mid < m
    · exact ⟨nn - b, mid, by rw [if_pos hm]; exact ⟨rfl, rfl⟩, by omega, by omega, by omega, by omega, by omega, by omega, by omega, by omega⟩
    · exact ⟨a, m, by rw [if_neg hm]; exact ⟨rfl, rfl⟩, by omega, by omega, by omega, by omega, by omega, by omega, by omega, by omega⟩
  have HB := Lib.hid hl7
  have HB2 := Lib.hid hl8
  clear hn hP hX hY sX sY ih hmid hnn hl7 hl8 hX1 hY1
  by_cases hm : mid < m
  all_goals
    first | rw [if_pos hm] at hlo | rw [if_neg hm] at hlo
    obtain ⟨q1, q2⟩ := hlo
    have Q1 := Lib.hid q1
    have Q2 := Lib.hid q2
    try have e4 : (nn : Int) - (b : Int) = (lo : Int) := by omega
    clear q1 q2
    go_enter Tryz.func81, Tryz.ntmps81
    go_wp2_with fail
    go_loopw [20, 21] (fun vi vj wr => ∃ i j : Nat, lo ≤ i ∧ i ≤ j ∧ j ≤ hi ∧ vi = .int .i64 i ∧ vj = .int .i64 j ∧ Terms wr g (P ++ (X ++ (Y ++ S))) ∧ Hid (MSplit a m b nn lo hi i j (P ++ (X ++ (Y ++ S))) ∧ Only g w wr)) (fun vi vj _ => ((intOf vj).toNat - (intOf vi).toNat))
    case atStart => exact ⟨lo, hi, Nat.le_refl _, by omega, Nat.le_refl _, by first | rfl | rw [Q1.out], by first | rfl | rw [Q2.out], h, Lib.hid ⟨⟨.inl rfl, .inl rfl⟩, Only.refl _ _⟩⟩
    case round =>
      obtain ⟨i, j, hli, hij, hjh, rfl, rfl, hT, HV⟩ := hrel
      clear h
      by_cases hlt : i < j
      · obtain ⟨c, hc⟩ : ∃ c, c = (i + j) / 2 := ⟨_, rfl⟩
        have c1 : i ≤ c := by omega
        have c2 : c < j := by omega
        obtain ⟨d, hd⟩ : ∃ d, d + c = p := ⟨p - c, by omega⟩
        obtain ⟨s, hs⟩ : ∃ s, (P ++ (X ++ (Y ++ S)))[c]? = some s := ⟨_, List.getElem?_eq_getElem (by rw [HN.out]; omega)⟩
        obtain ⟨t, ht⟩ : ∃ t, (P ++ (X ++ (Y ++ S)))[d]? = some t := ⟨_, List.getElem?_eq_getElem (by rw [HN.out]; omega)⟩
        have HSS := Lib.hid hs
        have HTT := Lib.hid ht
        have hS := hT.heldXY ht hs
        have hMd := hT.drew
        have hO := HV.out.2.drew
        have f1 : ((i : Int) + (j : Int)) / 2 = (c : Int) := by omega
        have f2 : (p : Int) - (c : Int) = (d : Int) := by omega
        have i0 : (0 : Int) ≤ (c : Int) := by omega
        have i1 : (c : Int) < (n : Int) := by omega
        have i2 : (0 : Int) ≤ (d : Int) := by omega
        have i3 : (d : Int) < (n : Int) := by omega
        have f3 : IntKind.i64.wrap (d : Int) = (d : Int) := IntWalk.i64_in _ (by omega)
        have HD := Lib.hid (show nn - 1 - c = d ∧ nn - (c + 1) = d by omega)
        clear hs ht hT hc hd
        go_wp2_with fail
        go_region_held3 (fun w' => HeldXY w' g d c t s) (first | exact hS | exact hS1 | go_keep)
          (first
            | (go_at_call 29; ((with_reducible refine (cmp46_any _ _ _ _ _ _ _ _ t.e s.e _).mono ?_); rintro e w1 ⟨rfl, hb1⟩; have hM1 := hMd.below hb1; have hS1 := hM1.heldXY HTT.out HSS.out; have hO1 := hO.below hb1 (Nat.le_refl _))))
        have HO1 := Lib.hid hO1
        have HM1 := Lib.hid hM1
        clear hS hS1 hMd hO hM1 hb1 hO1 f1 f2 f3
        by_cases hcmp : cmpE s.e t.e < 0
        · have HC := Lib.hid (desc_of_neg hcmp)
          have hdc : (!decide (cmpE s.e t.e < 0)) = false := by rw [decide_eq_true hcmp]; rfl
          clear hcmp
          rw [hdc]
          clear hdc
          go_wp2
          go_roundw
          case rel => exact ⟨i, c, hli, by omega, by omega, rfl, rfl, HM1.out, Lib.hid ⟨⟨HV.out.1.1, .inr ⟨s, t, HSS.out, by rw [HD.out.1]; exact HTT.out, HC.out⟩⟩, HO1.out⟩⟩
          case measure => simp [intOf]; omega
        · have HC := Lib.hid (desc_of_nonneg hcmp)
          have hdc : (!decide (cmpE s.e t.e < 0)) = true := by rw [decide_eq_false hcmp]; rfl
          clear hcmp
          rw [hdc]
          clear hdc
          go_wp2
          go_roundw
          case rel => exact ⟨c + 1, j, by omega, by omega, hjh, by go_num, rfl, HM1.out, Lib.hid ⟨⟨.inr ⟨s, t, by rw [Nat.add_sub_cancel]; exact HSS.out, by rw [HD.out.2]; exact HTT.out, HC.out⟩, HV.out.1.2⟩, HO1.out⟩⟩
          case measure => simp [intOf]; omega
      · obtain rfl : i = j := by omega
        obtain ⟨en, hen⟩ : ∃ en, en = nn - i := ⟨_, rfl⟩
        have e6 : (nn : Int) - (i : Int) = (en : Int) := by omega
        have HAB := Lib.hid (msplit_done (S := S) HP.out HX.out HY.out SX.out SY.out HV.out.1 hl1 hli hjh hl3 hl4 hl5 hl6 HB.out HB2.out)
        have hEN := hen
        rw [← hen] at HAB
        have HE := Lib.hid hen
        have k1 : a ≤ i := by omega
        have k2 : i ≤ m := by omega
        have k3 : m ≤ en := by omega
        have k4 : en ≤ b := by omega
        have k5 : i + en = mid + m := by have := HNN.out; omega
        have lA : (X.take (i - a)).length = i - a := by rw [List.length_take]; have := HX.out; omega
        have lB : (X.drop (i - a)).length = m - i := by rw [List.length_drop]; have := HX.out; omega
        have lC : (Y.take (en - m)).length = en - m := by rw [List.length_take]; have := HY.out; omega
        have lD : (Y.drop (en - m)).length = b - en := by rw [List.length_drop]; have := HY.out; omega
        have HLL := Lib.hid (And.intro lA (And.intro lB (And.intro lC lD)))
        have hL : P ++ (X ++ (Y ++ S)) = (P ++ X.take (i - a)) ++ (X.drop (i - a) ++ (Y.take (en - m) ++ (Y.drop (en - m) ++ S))) := by
          have ex := List.take_append_drop (i - a) X
          have ey := List.take_append_drop (en - m) Y
          generalize X.take (i - a) = x1 at *
          generalize X.drop (i - a) = x2 at *
          generalize Y.take (en - m) = y1 at *
          generalize Y.drop (en - m) = y2 at *
          rw [← ex, ← ey]; simp
        have hT1 := hT
        rw [hL] at hT1
        have HT1 := Lib.hid hT1
        have hn1 := HN.out
        rw [hL] at hn1
        have HN1 := Lib.hid hn1
        have HO1 := Lib.hid HV.out.2
        clear hT hT1 hL hn1 lA lB lC lD hen hEN HV
        have hw1 : (i < m ∧ m < en) ∨ ¬ i < m ∨ (i < m ∧ ¬ m < en) := by omega
        rcases hw1 with ⟨r1, r2⟩ | r1 | ⟨r1, r2⟩
        focus
          have HC := Lib.hid (rotate_any g cap i m en n (P ++ X.take (i - a)) (X.drop (i - a)) (Y.take (en - m)) (Y.drop (en - m) ++ S) wr HT1.out HN1.out (by rw [List.length_append, HP.out, HLL.out.1]; omega) (by rw [List.length_append, HP.out, HLL.out.1, HLL.out.2.1]; omega) (by rw [List.length_append, HP.out, HLL.out.1, HLL.out.2.1, HLL.out.2.2.1]; omega) (by rw [HLL.out.2.1]; omega) (by rw [HLL.out.2.2.1]; omega) hcap hbd hnb)
          have HWO := Lib.hid HO1.out
          clear HO1
          go_wp2_with fail
          refine HC.out.mono ?_
          rintro e wc ⟨rfl, h1, h2⟩
          have HO1 := Lib.hid (HWO.out.trans h2)
          have HOc := Lib.hid (HWO.out.trans h2)
          have HTc := Lib.hid (show Terms wc g (P ++ ((X.take (i - a) ++ Y.take (en - m)) ++ ((X.drop (i - a) ++ Y.drop (en - m)) ++ S))) by simpa using h1)
          clear h1 h2 HC
        rotate_left
        focus
          obtain ⟨wc, rfl⟩ : ∃ x, x = wr := ⟨_, rfl⟩
          have HOc := Lib.hid HO1.out
          have HTc := Lib.hid (show Terms wc g (P ++ ((X.take (i - a) ++ Y.take (en - m)) ++ ((X.drop (i - a) ++ Y.drop (en - m)) ++ S))) by
            have e0 : X.drop (i - a) = [] := List.eq_nil_of_length_eq_zero (by rw [HLL.out.2.1]; omega)
            have h1 := HT1.out
            rw [e0] at h1 ⊢
            simpa using h1)
        rotate_left
        focus
          obtain ⟨wc, rfl⟩ : ∃ x, x = wr := ⟨_, rfl⟩
          have HOc := Lib.hid HO1.out
          have HTc := Lib.hid (show Terms wc g (P ++ ((X.take (i - a) ++ Y.take (en - m)) ++ ((X.drop (i - a) ++ Y.drop (en - m)) ++ S))) by
            have e0 : Y.take (en - m) = [] := List.eq_nil_of_length_eq_zero (by rw [HLL.out.2.2.1]; omega)
            have h1 := HT1.out
            rw [e0] at h1 ⊢
            simpa using h1)
        rotate_left
        all_goals
          have HNc := Lib.hid (show (P ++ ((X.take (i - a) ++ Y.take (en - m)) ++ ((X.drop (i - a) ++ Y.drop (en - m)) ++ S))).length = n by
            have h1 := HN1.out
            simp only [List.length_append] at h1 ⊢
            omega)
          clear HT1 HN1 HO1
          have hw2 : (a < i ∧ i < mid) ∨ ¬ a < i ∨ (a < i ∧ ¬ i < mid) := by omega
          rcases hw2 with ⟨r3, r4⟩ | r3 | ⟨r3, r4⟩
          focus
            have HC := Lib.hid (IH.out a i mid P (X.take (i - a)) (Y.take (en - m)) ((X.drop (i - a) ++ Y.drop (en - m)) ++ S) wc (by omega) (by simpa using HTc.out) (by simpa using HNc.out) HP.out (by rw [HLL.out.1]; omega) (by rw [HLL.out.2.2.1]; omega) (by rw [HLL.out.1]; omega) (by rw [HLL.out.2.2.1]; omega) (SX.out.sublist (List.take_sublist _ _)) (SY.out.sublist (List.take_sublist _ _)))
            go_wp2_with fail
            refine HC.out.mono ?_
            rintro e wd ⟨rfl, M1, h1, h2, h3, h4⟩
            have H1 := Lib.hid (And.intro h1 (And.intro h2 (And.intro h3 (HOc.out.trans h4))))
            clear h1 h2 h3 h4 HC
          rotate_left
          focus
            obtain ⟨wd, rfl⟩ : ∃ x, x = wc := ⟨_, rfl⟩
            obtain ⟨M1, h1⟩ : ∃ M1 : List TV, M1.Perm (X.take (i - a) ++ Y.take (en - m)) ∧ M1.Pairwise Desc ∧ Terms wd g (P ++ (M1 ++ ((X.drop (i - a) ++ Y.drop (en - m)) ++ S))) ∧ Only g w wd := by
              have e0 : X.take (i - a) = [] := List.eq_nil_of_length_eq_zero (by rw [HLL.out.1]; omega)
              exact ⟨_, List.Perm.refl _, by rw [e0, List.nil_append]; exact SY.out.sublist (List.take_sublist _ _), HTc.out, HOc.out⟩
            have H1 := Lib.hid h1
            clear h1
          rotate_left
          focus
            obtain ⟨wd, rfl⟩ : ∃ x, x = wc := ⟨_, rfl⟩
            obtain ⟨M1, h1⟩ : ∃ M1 : List TV, M1.Perm (X.take (i - a) ++ Y.take (en - m)) ∧ M1.Pairwise Desc ∧ Terms wd g (P ++ (M1 ++ ((X.drop (i - a) ++ Y.drop (en - m)) ++ S))) ∧ Only g w wd := by
              have e0 : Y.take (en - m) = [] := List.eq_nil_of_length_eq_zero (by rw [HLL.out.2.2.1]; omega)
              exact ⟨_, List.Perm.refl _, by rw [e0, List.append_nil]; exact SX.out.sublist (List.take_sublist _ _), HTc.out, HOc.out⟩
            have H1 := Lib.hid h1
            clear h1
          rotate_left
          all_goals
            have HNd := Lib.hid (show (P ++ (M1 ++ ((X.drop (i - a) ++ Y.drop (en - m)) ++ S))).length = n by
              have h1 := HNc.out
              have h2 := H1.out.1.length_eq
              simp only [List.length_append] at h1 h2 ⊢
              omega)
            have hM1 := H1.out.1.length_eq
            rw [List.length_append, HLL.out.1, HLL.out.2.2.1] at hM1
            have HM1 := Lib.hid hM1
            clear HNc HTc HOc hM1
            have hw3 : (mid < en ∧ en < b) ∨ ¬ mid < en ∨ (mid < en ∧ ¬ en < b) := by omega
            rcases hw3 with ⟨r5, r6⟩ | r5 | ⟨r5, r6⟩
            · have HC := Lib.hid (IH.out mid en b (P ++ M1) (X.drop (i - a)) (Y.drop (en - m)) S wd (by omega) (by simpa using H1.out.2.2.1) (by simpa using HNd.out) (by rw [List.length_append, HP.out, HM1.out]; omega) (by rw [HLL.out.2.1]; omega) (by rw [HLL.out.2.2.2]; omega) (by rw [HLL.out.2.1]; omega) (by rw [HLL.out.2.2.2]; omega) (SX.out.sublist (List.drop_sublist _ _)) (SY.out.sublist (List.drop_sublist _ _)))
              go_wp2_with fail
              refine HC.out.mono ?_
              rintro e we ⟨rfl, M2, h1, h2, h3, h4⟩
              have H2 := Lib.hid (And.intro h1 (And.intro h2 (And.intro h3 h4)))
              clear h1 h2 h3 h4 HC
              go_wp2
              go_end0
              have hf := merge_parts SX.out SY.out HAB.out.1 HAB.out.2 H1.out.1 H1.out.2.1 H2.out.1 H2.out.2.1
              exact ⟨rfl, M1 ++ M2, hf.1, hf.2, by simpa using H2.out.2.2.1, H1.out.2.2.2.trans H2.out.2.2.2⟩
            · have HF := Lib.hid (show (X.drop (i - a) ++ Y.drop (en - m)).Pairwise Desc by
                have e0 : X.drop (i - a) = [] := List.eq_nil_of_length_eq_zero (by rw [HLL.out.2.1]; omega)
                rw [e0, List.nil_append]; exact SY.out.sublist (List.drop_sublist _ _))
              go_wp2
              all_goals
                go_end0
                have hf := merge_parts SX.out SY.out HAB.out.1 HAB.out.2 H1.out.1 H1.out.2.1 (List.Perm.refl _) HF.out
                exact ⟨rfl, _, hf.1, hf.2, by simpa using H1.out.2.2.1, H1.out.2.2.2⟩
            · have HF := Lib.hid (show (X.drop (i - a) ++ Y.drop (en - m)).Pairwise Desc by
                have e0 : Y.drop (en - m) = [] := List.eq_nil_of_length_eq_zero (by rw [HLL.out.2.2.2]; omega)
                rw [e0, List.append_nil]; exact SX.out.sublist (List.drop_sublist _ _))
              go_wp2
              all_goals
                go_end0
                have hf := merge_parts SX.out SY.out HAB.out.1 HAB.out.2 H1.out.1 H1.out.2.1 (List.Perm.refl _) HF.out
                exact ⟨rfl, _, hf.1, hf.2, by simpa using H1.out.2.2.1, H1.out.2.2.2⟩
end Go.Proofs.YtnknidfpkmnncaaGreat
/- The library's stable sort over any number of terms. -/
namespace Go.Proofs.YtnknidfpkmnncaaGreat
open Go.RowKit

theorem merge_all (g cap n : Nat) (hcap : n ≤ cap) (hbd : cap ≤ 9223372036854775807) (hnb : n ≤ 1099511627776) : ∀ K, MergeC K g cap n := by
  intro K
  induction K with
  | zero =>
    intro a m b P X Y S w hK h hn hP hX hY hx hy sX sY
    omega
  | succ K ih =>
    intro a m b P X Y S w hK h hn hP hX hY hx hy sX sY
    by_cases h1 : X.length = 1
    · match X, h1 with
      | [x], _ => exact merge_first g cap a m b n P Y S x w h hn hP hX hY sY hcap hbd hnb
    · by_cases h2 : Y.length = 1
      · match Y, h2 with
        | [y], _ => exact merge_last g cap a m b n P X S y w h hn hP hX hY h1 sX hcap hbd hnb
      · exact merge_step K g cap n ih hcap hbd hnb a m b P X Y S w hK h hn hP hX hY (by omega) (by omega) sX sY

/-- Sorted runs of one length. -/
def Runs (k : Nat) (LL : List (List TV)) : Prop := ∀ X ∈ LL, X.length = k ∧ X.Pairwise Desc
theorem Runs.nil (k : Nat) : Runs k [] := fun _ h => by cases h
theorem Runs.snoc {k : Nat} {LL : List (List TV)} {X : List TV} (h : Runs k LL) (hl : X.length = k) (hs : X.Pairwise Desc) : Runs k (LL ++ [X]) := fun Y hY => by
  rcases List.mem_append.1 hY with h1 | h1
  · exact h Y h1
  · rw [List.mem_singleton.1 h1]; exact ⟨hl, hs⟩
theorem Runs.length {k : Nat} {LL : List (List TV)} (h : Runs k LL) : LL.flatten.length = k * LL.length := by
  induction LL with
  | nil => simp
  | cons X LL ih =>
    rw [List.flatten_cons, List.length_append, ih (fun Y hY => h Y (List.mem_cons_of_mem _ hY)), (h X (by simp)).1, List.length_cons, Nat.mul_add]
    omega
theorem Runs.tail {k : Nat} {X : List TV} {LL : List (List TV)} (h : Runs k (X :: LL)) : Runs k LL := fun Y hY => h Y (List.mem_cons_of_mem _ hY)
theorem flatten_snoc (LL : List (List TV)) (X : List TV) : (LL ++ [X]).flatten = LL.flatten ++ X := by simp

set_option maxRecDepth 100000 in
set_option maxHeartbeats 4000000 in
theorem stable_any (g cap n : Nat) (M : List TV) (w : World) (h : Terms w g M) (hn : M.length = n) (hcap : n ≤ cap) (hbd : cap ≤ 9223372036854775807) (hnb : n ≤ 1099511627776) :
    Calls Tryz.prog 59 #[.slice (some ⟨g, 0, none⟩) n cap, .int .i64 n, .func (.func 29) #[] #[]] w (SortP g [] M [] w) := by
  have HN := Lib.hid hn
  have HH := Lib.hid h
  clear hn h
  go_enter Tryz.func59, Tryz.ntmps59
  go_wp2_with fail
  go_loopw [7, 8] (fun va vb wr => ∃ (a : Nat) (LL : List (List TV)) (R : List TV), a ≤ n ∧ va = .int .i64 a ∧ vb = .int .i64 ((a : Int) + 20) ∧ Hid (Terms wr g (LL.flatten ++ R) ∧ a = 20 * LL.length ∧ Runs 20 LL ∧ (LL.flatten ++ R).Perm M ∧ Only g w wr)) (fun va _ _ => (n - (intOf va).toNat))
  case atStart => exact ⟨0, [], M, Nat.zero_le _, rfl, rfl, Lib.hid ⟨HH.out, rfl, Runs.nil _, List.Perm.refl _, Only.refl _ _⟩⟩
  case round =>
    obtain ⟨a, LL, R, han, rfl, rfl, HX⟩ := hrel
    have HLR := Lib.hid (show LL.flatten.length = a ∧ R.length = n - a by
      have h1 := HX.out.2.2.1.length
      have h2 := HX.out.2.2.2.1.length_eq
      have h3 := HN.out
      have h4 := HX.out.2.1
      rw [List.length_append] at h2
      omega)
    have e0 : ((a + 20 : Nat) : Int) = (a : Int) + 20 := by omega
    by_cases hlt : (a : Int) + 20 ≤ (n : Int)
    · have HC := Lib.hid (insertion_any g cap a (a + 20) n LL.flatten (R.take 20) (R.drop 20) wr (by rw [List.take_append_drop]; exact HX.out.1) (by rw [List.take_append_drop, List.length_append, HLR.out.1, HLR.out.2]; omega) HLR.out.1 (by rw [HLR.out.1, List.length_take, HLR.out.2]; omega) hcap hbd hnb)
      rw [e0] at HC
      go_wp2_with fail
      refine HC.out.mono ?_
      rintro e w1 ⟨rfl, M', h1, h2, h3, h4⟩
      have H1 := Lib.hid (And.intro h1 (And.intro h2 (And.intro h3 h4)))
      clear h1 h2 h3 h4
      go_wp2
      go_roundw
      case rel =>
        refine ⟨a + 20, LL ++ [M'], R.drop 20, by omega, by go_num, by rw [e0], Lib.hid ⟨?_, ?_, ?_, ?_, HX.out.2.2.2.2.trans H1.out.2.2.2⟩⟩
        · rw [flatten_snoc, List.append_assoc]; exact H1.out.2.2.1
        · rw [HX.out.2.1, List.length_append]; simp; omega
        · refine HX.out.2.2.1.snoc ?_ H1.out.2.1
          rw [H1.out.1.length_eq, List.length_take, HLR.out.2]; omega
        · rw [flatten_snoc, List.append_assoc]
          refine List.Perm.trans ?_ HX.out.2.2.2.1
          refine List.Perm.append_left _ ?_
          have h5 := H1.out.1.append_right (R.drop 20)
          rwa [List.take_append_drop] at h5
      case measure => simp [intOf]; omega
    · have HC := Lib.hid (insertion_any g cap a n n LL.flatten R [] wr (by rw [List.append_nil]; exact HX.out.1) (by rw [List.append_nil, List.length_append, HLR.out.1, HLR.out.2]; omega) HLR.out.1 (by rw [HLR.out.1, HLR.out.2]; omega) hcap hbd hnb)
      go_wp2_with fail
      refine HC.out.mono ?_
      rintro e w1 ⟨rfl, T, h1, h2, h3, h4⟩
      have H1 := Lib.hid (show Terms w1 g (LL.flatten ++ T) ∧ Runs 20 LL ∧ T.Pairwise Desc ∧ T.length < 20 ∧ (LL.flatten ++ T).Perm M ∧ Only g w w1 from
        ⟨by simpa using h3, HX.out.2.2.1, h2, by rw [h1.length_eq, HLR.out.2]; omega, (List.Perm.append_left _ h1).trans HX.out.2.2.2.1, HX.out.2.2.2.2.trans h4⟩)
      clear h1 h2 h3 h4 HC
      go_wp2_with fail
      go_loopw [6] (fun vk wr => ∃ (k : Nat) (LL : List (List TV)) (T : List TV), 0 < k ∧ k ≤ 2199023255552 ∧ vk = .int .i64 k ∧ Hid (Terms wr g (LL.flatten ++ T) ∧ Runs k LL ∧ T.Pairwise Desc ∧ T.length < k ∧ (LL.flatten ++ T).Perm M ∧ Only g w wr)) (fun vk _ => (n - (intOf vk).toNat))
      case atStart => exact ⟨20, LL, T, by omega, by omega, rfl, H1⟩
      case round =>
        clear HLR HX H1
        obtain ⟨wo, rfl⟩ : ∃ x, x = wr := ⟨_, rfl⟩
        obtain ⟨k, LL2, T2, hk0, hk1, rfl, HY⟩ := hrel
        by_cases hkn : k < n
        · obtain ⟨kk, hkk⟩ : ∃ kk, kk = 2 * k := ⟨_, rfl⟩
          have e1 : 2 * (k : Int) = (kk : Int) := by omega
          have e2 : (k : Int) * 2 = (kk : Int) := by omega
          have hkk1 : kk ≤ 2 * k := by omega
          have hkk2 : 2 * k ≤ kk := by omega
          clear hkk
          go_wp2_with fail
          go_loopw [7, 8] (fun va vb wq => ∃ (a : Nat) (DD EE : List (List TV)), a ≤ n ∧ va = .int .i64 a ∧ vb = .int .i64 ((a : Int) + (kk : Int)) ∧ Hid (Terms wq g (DD.flatten ++ (EE.flatten ++ T2)) ∧ a = kk * DD.length ∧ Runs kk DD ∧ Runs k EE ∧ (DD.flatten ++ (EE.flatten ++ T2)).Perm M ∧ Only g w wq)) (fun va _ _ => (n - (intOf va).toNat))
          case atStart => exact ⟨0, [], LL2, by omega, rfl, by simp, Lib.hid ⟨by simpa using HY.out.1, rfl, Runs.nil _, HY.out.2.1, by simpa using HY.out.2.2.2.2.1, HY.out.2.2.2.2.2⟩⟩
          case round =>
            obtain ⟨wp, rfl⟩ : ∃ x, x = wr := ⟨_, rfl⟩
            obtain ⟨a, DD, EE, han2, rfl, rfl, HZ⟩ := hrel
            have HLE := Lib.hid (show DD.flatten.length = a ∧ a + (k * EE.length + T2.length) = n by
              have h1 := HZ.out.2.2.1.length
              have h2 := HZ.out.2.2.2.2.1.length_eq
              have h3 := HN.out
              have h4 := HZ.out.2.1
              have h5 := HZ.out.2.2.2.1.length
              rw [List.length_append, List.length_append] at h2
              omega)
            have HLN := Lib.hid (show (DD.flatten ++ (EE.flatten ++ T2)).length = n by rw [HZ.out.2.2.2.2.1.length_eq]; exact HN.out)
            by_cases hab : (a : Int) + (kk : Int) ≤ (n : Int)
            · obtain ⟨X, Y, EE2, rfl⟩ : ∃ X Y EE2, EE = X :: Y :: EE2 := by
                match EE, HLE.out.2 with
                | [], h5 => simp at h5; have := HY.out.2.2.2.1; omega
                | [X], h5 => simp at h5; have := HY.out.2.2.2.1; omega
                | X :: Y :: EE2, _ => exact ⟨X, Y, EE2, rfl⟩
              have rX := HZ.out.2.2.2.1 X (by simp)
              have rY := HZ.out.2.2.2.1 Y (by simp)
              have hR := HZ.out.2.2.2.1.tail.tail
              have HR := Lib.hid hR
              have HC := Lib.hid (merge_all g cap n hcap hbd hnb (a + kk - a) a (a + k) (a + kk) DD.flatten X Y (EE2.flatten ++ T2) wp (Nat.le_refl _) (by simpa using HZ.out.1) (by simpa using HLN.out) HLE.out.1 (by rw [rX.1]) (by rw [rY.1]; omega) (by rw [rX.1]; exact hk0) (by rw [rY.1]; exact hk0) rX.2 rY.2)
              have HRX := Lib.hid (And.intro rX.1 rY.1)
              clear rX rY hR
              rw [show ((a + k : Nat) : Int) = (a : Int) + (k : Int) by omega, show ((a + kk : Nat) : Int) = (a : Int) + (kk : Int) by omega] at HC
              go_wp2_with fail
              refine HC.out.mono ?_
              rintro e w1 ⟨rfl, M', h1, h2, h3, h4⟩
              have H1 := Lib.hid (And.intro h1 (And.intro h2 (And.intro h3 h4)))
              clear h1 h2 h3 h4 HC
              go_wp2
              go_roundw
              case rel =>
                refine ⟨a + kk, DD ++ [M'], EE2, by omega, by go_num, by rw [show ((a + kk : Nat) : Int) = (a : Int) + (kk : Int) by omega], Lib.hid ⟨?_, ?_, ?_, HR.out, ?_, HZ.out.2.2.2.2.2.trans H1.out.2.2.2⟩⟩
                · rw [flatten_snoc, List.append_assoc]; exact H1.out.2.2.1
                · rw [List.length_append, Nat.mul_add, ← HZ.out.2.1]; simp
                · refine HZ.out.2.2.1.snoc ?_ H1.out.2.1
                  rw [H1.out.1.length_eq, List.length_append, HRX.out.1, HRX.out.2]; omega
                · rw [flatten_snoc, List.append_assoc]
                  refine List.Perm.trans ?_ HZ.out.2.2.2.2.1
                  refine List.Perm.append_left _ ?_
                  rw [List.flatten_cons, List.flatten_cons, List.append_assoc, List.append_assoc, ← List.append_assoc X Y]
                  exact H1.out.1.append_right _
              case measure => simp [intOf]; omega
            · have HE1 := Lib.hid (show EE.length ≤ 1 by
                have h5 := HLE.out.2
                match EE, h5 with
                | [], _ => simp
                | [X], _ => simp
                | X :: Y :: EE2, h5 =>
                  rw [List.length_cons, List.length_cons, Nat.mul_add, Nat.mul_add] at h5
                  omega)
              by_cases hm : (a : Int) + (k : Int) < (n : Int)
              · obtain ⟨X, rfl⟩ : ∃ X, EE = [X] := by
                  match EE, HLE.out.2, HE1.out with
                  | [], h5, _ => simp at h5; have := HY.out.2.2.2.1; omega
                  | [X], _, _ => exact ⟨X, rfl⟩
                  | X :: Y :: EE2, _, h6 => simp at h6
                have rX := HZ.out.2.2.2.1 X (by simp)
                have hT2 : k + T2.length + a = n := by have h5 := HLE.out.2; simp at h5; omega
                have HC := Lib.hid (merge_all g cap n hcap hbd hnb (n - a) a (a + k) n DD.flatten X T2 [] wp (Nat.le_refl _) (by simpa using HZ.out.1) (by simpa using HLN.out) HLE.out.1 (by rw [rX.1]) (by omega) (by rw [rX.1]; exact hk0) (by omega) rX.2 HY.out.2.2.1)
                have HRX := Lib.hid rX.1
                have HT2 := Lib.hid hT2
                clear rX hT2
                rw [show ((a + k : Nat) : Int) = (a : Int) + (k : Int) by omega] at HC
                go_wp2_with fail
                refine HC.out.mono ?_
                rintro e w1 ⟨rfl, M', h1, h2, h3, h4⟩
                have H1 := Lib.hid (And.intro h1 (And.intro h2 (And.intro h3 h4)))
                clear h1 h2 h3 h4 HC
                go_wp2
                go_roundw
                case rel =>
                  refine ⟨kk, DD, M', by omega, by omega, rfl, Lib.hid ⟨by simpa using H1.out.2.2.1, HZ.out.2.2.1, H1.out.2.1, ?_, ?_, HZ.out.2.2.2.2.2.trans H1.out.2.2.2⟩⟩
                  · rw [H1.out.1.length_eq, List.length_append, HRX.out]; have := HY.out.2.2.2.1; omega
                  · refine List.Perm.trans ?_ HZ.out.2.2.2.2.1
                    refine List.Perm.append_left _ ?_
                    simpa using H1.out.1
                case measure => simp [intOf]; omega
              · have HF := Lib.hid (show (EE.flatten ++ T2).Pairwise Desc ∧ (EE.flatten ++ T2).length < kk by
                  match EE, HLE.out.2, HE1.out, HZ.out.2.2.2.1 with
                  | [], h5, _, _ => exact ⟨by simpa using HY.out.2.2.1, by simp; have := HY.out.2.2.2.1; omega⟩
                  | [X], h5, _, h6 =>
                    have h7 := h6 X (by simp)
                    simp at h5
                    have h8 : T2 = [] := List.eq_nil_of_length_eq_zero (by omega)
                    rw [h8]
                    exact ⟨by simpa using h7.2, by simp; omega⟩
                  | X :: Y :: EE2, _, h6, _ => simp at h6)
                go_wp2
                go_roundw
                case rel => exact ⟨kk, DD, EE.flatten ++ T2, by omega, by omega, rfl, Lib.hid ⟨HZ.out.1, HZ.out.2.2.1, HF.out.1, HF.out.2, HZ.out.2.2.2.2.1, HZ.out.2.2.2.2.2⟩⟩
                case measure => simp [intOf]; omega
        · have HF := Lib.hid (show (LL2.flatten ++ T2).Pairwise Desc by
            have h1 := HY.out.2.1.length
            have h2 := HY.out.2.2.2.2.1.length_eq
            have h3 := HN.out
            rw [List.length_append] at h2
            match LL2, h1, h2, HY.out.2.1 with
            | [], _, _, _ => simpa using HY.out.2.2.1
            | [X], h1, h2, h6 =>
              have h7 := h6 X (by simp)
              rw [h1] at h2
              simp at h2
              have h8 : T2 = [] := List.eq_nil_of_length_eq_zero (by omega)
              rw [h8]
              simpa using h7.2
            | X :: Y :: LL3, h1, h2, _ =>
              rw [h1, List.length_cons, List.length_cons, Nat.mul_add, Nat.mul_add] at h2
              omega)
          go_wp2
          go_end0
          exact ⟨rfl, _, HY.out.2.2.2.2.1, HF.out, by simpa using HY.out.1, HY.out.2.2.2.2.2⟩
end Go.Proofs.YtnknidfpkmnncaaGreat
/- The stable sort of the library, as Normal calls it. -/
namespace Go.Proofs.YtnknidfpkmnncaaGreat
open Go.RowKit

/-- How many terms the sort's contract speaks of. -/
def sortLim : Nat := 1073741824
theorem sort_any (g cap n : Nat) (M : List TV) (w : World) (h : Terms w g M) (hn : M.length = n) (hcap : n ≤ cap) (hbd : cap ≤ 9223372036854775807) (hnb : n ≤ 1099511627776) (_h20 : n < sortLim) :
    Calls Tryz.prog 28 #[.slice (some ⟨g, 0, none⟩) n cap, .func (.func 29) #[] #[]] w (SortP g [] M [] w) := by
  have hS := Lib.hid (stable_any g cap n M w h hn hcap hbd hnb)
  go_enter Tryz.func28, Tryz.ntmps28
  go_wp2_with fail
  refine hS.out.mono ?_
  rintro e w1 ⟨rfl, h1⟩
  go_wp2
  go_end0
  exact ⟨rfl, h1⟩

theorem insertion_nil (w : World) :
    Calls Tryz.prog 80 #[.slice none 0 0, .int .i64 0, .int .i64 0, .func (.func 29) #[] #[]] w fun e w' => e = .returned (.tuple #[]) ∧ w = w' := by
  go_enter Tryz.func80, Tryz.ntmps80
  go_wp2
  go_loop [8] (fun i => i = .int .i64 1) (fun _ => 0)
  case atStart => rfl
  case round =>
    obtain rfl := hrel
    go_wp2
    go_end0
    exact ⟨rfl, rfl⟩
theorem stable_nil (w : World) :
    Calls Tryz.prog 59 #[.slice none 0 0, .int .i64 0, .func (.func 29) #[] #[]] w fun e w' => e = .returned (.tuple #[]) ∧ w = w' := by
  go_enter Tryz.func59, Tryz.ntmps59
  go_wp2
  go_loop [7, 8] (fun a i => a = .int .i64 0 ∧ i = .int .i64 20) (fun _ _ => 0)
  case atStart => exact ⟨rfl, rfl⟩
  case round =>
    obtain ⟨rfl, rfl⟩ := hrel
    go_wp2_with fail
    refine (insertion_nil _).mono ?_
    rintro e w1 ⟨rfl, rfl⟩
    go_wp2
    go_loop [6] (fun i => i = .int .i64 20) (fun _ => 0)
    case atStart => rfl
    case round =>
      obtain rfl := hrel
      go_wp2
      go_end0
      exact ⟨rfl, rfl⟩
theorem sort_nil (w : World) :
    Calls Tryz.prog 28 #[.slice none 0 0, .func (.func 29) #[] #[]] w fun e w' => e = .returned (.tuple #[]) ∧ w = w' := by
  go_enter Tryz.func28, Tryz.ntmps28
  go_wp2_with fail
  refine (stable_nil _).mono ?_
  rintro e w1 ⟨rfl, rfl⟩
  go_wp2
  go_end0
  exact ⟨rfl, rfl⟩
end Go.Proofs.YtnknidfpkmnncaaGreat
/- The library's IndexFunc and DeleteFunc over terms, with the test of a zero coefficient. -/
namespace Go.Proofs.YtnknidfpkmnncaaGreat
open Go.RowKit

/-- The coefficient of a term reads as the integer z (not in canonical form, perhaps). -/
def Coef (B : Nat) (w : World) (t : TV) (z : Int) : Prop := ∃ xs, Dig B w t.A t.n t.c xs ∧ iv t.neg (val xs) = z
theorem Coef.below {B : Nat} {w w' : World} {t : TV} {z : Int} (h : Coef B w t z) {B' : Nat} (hb : Below B' w w') (hB : w.heap.size ≤ B') : Coef B w' t z := by
  obtain ⟨xs, hd, hz⟩ := h
  exact ⟨xs, hd.below hb hB, hz⟩
theorem Terms.ty {w : World} {g : Nat} {L : List TV} (h : Terms w g L) : Ty w g 57 := by
  obtain ⟨cur, hc, _⟩ := h.ex_
  exact ⟨cur, _, hc⟩
theorem Dig.only {B : Nat} {w w' : World} {A : Option Addr} {n c : Nat} {xs : List Nat} (h : Dig B w A n c xs) {g : Nat} {T' : TypeId} (hO : Only g w w') (hB : B ≤ g) (ht : Ty w g T') (hne : 83 ≠ T') : Dig B w' A n c xs := by
  obtain ⟨cur, fr, ht⟩ := ht
  exact h.other hO hB ht hne
theorem Coef.only {B : Nat} {w w' : World} {t : TV} {z : Int} (h : Coef B w t z) {g : Nat} {T' : TypeId} (hO : Only g w w') (hB : B ≤ g) (ht : Ty w g T') (hne : 83 ≠ T') : Coef B w' t z := by
  obtain ⟨xs, hd, hz⟩ := h
  exact ⟨xs, hd.only hO hB ht hne, hz⟩

theorem zero_test (B : Nat) (t : TV) (z : Int) (w : World) (h : Coef B w t z) :
    Calls Tryz.prog 33 #[.agg #[.bool t.neg, .slice t.A t.n t.c, .int .i64 t.e.1, .int .i64 t.e.2.1, .int .i64 t.e.2.2.1, .int .i64 t.e.2.2.2]] w (ValP (.bool (z == 0)) w) := by
  obtain ⟨xs, hd, hz⟩ := h
  have := zero50_any B t.neg t.A t.n t.c xs t.e w hd
  rw [hz] at this
  exact this

/-- The first place at which the test strikes, or -1. -/
def IdxP (_g : Nat) (zc : TV → Int) (L : List TV) (w : World) (e : Ending) (w' : World) : Prop :=
  ((∀ t ∈ L, zc t ≠ 0) ∧ e = .returned (.int .i64 (-1)) ∨ ∃ X t Y, L = X ++ t :: Y ∧ (∀ s ∈ X, zc s ≠ 0) ∧ zc t = 0 ∧ e = .returned (.int .i64 (X.length : Nat))) ∧ Below w.heap.size w w'

set_option maxRecDepth 100000 in
set_option maxHeartbeats 1000000 in
theorem index_any (B g cap n : Nat) (zc : TV → Int) (L : List TV) (w : World) (h : Terms w g L) (hn : L.length = n) (hcap : n ≤ cap) (_hbd : cap ≤ 9223372036854775807) (hnb : n ≤ 1099511627776) (hc : ∀ t ∈ L, Coef B w t (zc t)) :
    Calls Tryz.prog 63 #[.slice (some ⟨g, 0, none⟩) n cap, .func (.func 33) #[] #[]] w (IdxP g zc L w) := by
  have HN := Lib.hid hn
  have HC := Lib.hid hc
  clear hn hc
  go_enter Tryz.func63, Tryz.ntmps63
  go_wp2
  go_loopw [8] (fun i wr => ∃ k : Nat, k ≤ n ∧ i = .int .i64 k ∧ Below w.heap.size w wr ∧ Hid (∀ s ∈ L.take k, zc s ≠ 0)) (fun i _ => n - (intOf i).toNat)
  case atStart => exact ⟨0, Nat.zero_le _, rfl, Below.refl _ _, Lib.hid (by simp)⟩
  case round =>
    obtain ⟨k, hk, rfl, hb, HV⟩ := hrel
    by_cases hlt : k < n
    · have hkL : k < L.length := by rw [HN.out]; exact hlt
      obtain ⟨t, ht⟩ : ∃ t, L[k]? = some t := ⟨_, List.getElem?_eq_getElem hkL⟩
      have hT := h.below hb
      obtain ⟨c0, c1, c2, c3, c4, c5⟩ := hT.six ht
      have hcf := (HC.out t (List.mem_of_getElem? ht)).below hb (Nat.le_refl _)
      have htk : L = L.take k ++ t :: L.drop (k + 1) := by
        have h1 := List.getElem?_eq_some_iff.1 ht
        rw [← h1.2, ← List.drop_eq_getElem_cons h1.1, List.take_append_drop]
      have HTK := Lib.hid htk
      have i0 : (0 : Int) ≤ (k : Int) := by omega
      have i1 : (k : Int) < (n : Int) := by omega
      clear ht htk hkL
      by_cases hz : zc t = 0
      · have hz' : (zc t == 0) = true := by rw [hz]; rfl
        have HZ := Lib.hid hz
        clear hz
        go_wp2_with fail
        refine (zero_test B t _ _ hcf).mono ?_
        rintro e w1 ⟨rfl, hb1⟩
        clear hT hcf c0 c1 c2 c3 c4 c5
        go_wp2
        go_ret
        refine ⟨.inr ⟨L.take k, t, L.drop (k + 1), HTK.out, HV.out, HZ.out, ?_⟩, hb.trans (hb1.mono hb.size)⟩
        rw [List.length_take, HN.out, Nat.min_eq_left hk]
        rfl
      · have hz' : (zc t == 0) = false := by rw [beq_eq_false_iff_ne]; exact hz
        have HV2 := Lib.hid (show ∀ s ∈ L.take (k + 1), zc s ≠ 0 from fun s hs => by
          rw [HTK.out] at hs
          have hl : (L.take k).length = k := by rw [List.length_take, HN.out]; omega
          rw [List.take_append, hl, List.take_of_length_le (by rw [hl]; omega), List.mem_append] at hs
          rcases hs with hs | hs
          · exact HV.out s hs
          · rw [show k + 1 - k = 1 by omega] at hs
            simp at hs
            rw [hs]; exact hz)
        clear hz
        go_wp2_with fail
        refine (zero_test B t _ _ hcf).mono ?_
        rintro e w1 ⟨rfl, hb1⟩
        clear hT hcf c0 c1 c2 c3 c4 c5
        have hb2 := hb.trans (hb1.mono hb.size)
        go_wp2
        go_roundw
        case rel => exact ⟨k + 1, by omega, by go_num, hb2, HV2⟩
        case measure => simp [intOf]; omega
    · have hkn : k = n := by omega
      subst hkn
      have HV2 := Lib.hid (show ∀ s ∈ L, zc s ≠ 0 by have := HV.out; rwa [List.take_of_length_le (by rw [HN.out]; omega)] at this)
      clear HV
      go_wp2
      go_ret
      exact ⟨.inl ⟨HV2.out, rfl⟩, hb⟩
end Go.Proofs.YtnknidfpkmnncaaGreat
/- The library's DeleteFunc over terms, with the test of a zero coefficient. -/
namespace Go.Proofs.YtnknidfpkmnncaaGreat
open Go.RowKit

/-- The cells that clear writes over m terms. -/
def zeroTerms (m : Nat) : List Value := (Builtin.zeroCells (Value.agg #[.bool false, .slice none 0 0, .int .i64 0, .int .i64 0, .int .i64 0, .int .i64 0]).cells m).toList
theorem zeroTerms_one (m : Nat) : ∀ v ∈ zeroTerms m, v.oneCell' = true := by
  intro v hv
  unfold zeroTerms Builtin.zeroCells at hv
  simp only [Array.toList_map, List.mem_map] at hv
  obtain ⟨i, _, rfl⟩ := hv
  have h6 : i % (Value.agg #[.bool false, .slice none 0 0, .int .i64 0, .int .i64 0, .int .i64 0, .int .i64 0]).cells.size < 6 := Nat.mod_lt _ (by decide)
  generalize i % (Value.agg #[.bool false, .slice none 0 0, .int .i64 0, .int .i64 0, .int .i64 0, .int .i64 0]).cells.size = r at *
  match r, h6 with
  | 0, _ => rfl
  | 1, _ => rfl
  | 2, _ => rfl
  | 3, _ => rfl
  | 4, _ => rfl
  | 5, _ => rfl
theorem zeroTerms_length (m : Nat) : (zeroTerms m).length = m * 6 := by simp [zeroTerms, Builtin.zeroCells, Value.cells]
theorem zeroTerm (w : World) : (zeroValue 57).run Tryz.prog w = .ok (.agg #[.bool false, .slice none 0 0, .int .i64 0, .int .i64 0, .int .i64 0, .int .i64 0]) w := by kernel_rfl

theorem run_clear_terms (g i m c n : Nat) (L : List TV) (w : World) (h : Terms w g L) (hn : L.length = n) (him : i + m = n) (hm : 0 < m) (ty : TypeId) :
    (Builtin.clear_ #[27] ty #[.slice (some ⟨g, i * 6, none⟩) m c]).run Tryz.prog w = .ok (.tuple #[]) (w.setCells g (i * 6) (zeroTerms m)) := by
  have hcell : ∀ j, j < (zeroTerms m).length → (w.cell? ⟨g, i * 6 + 0 + j, none⟩).isSome = true := by
    intro j hj
    rw [zeroTerms_length] at hj
    have hk : i * 6 + 0 + j < (flat L).length := by rw [flat_length]; omega
    rw [h.cell (List.getElem?_eq_getElem hk)]
    rfl
  have hst := run_storeCells_cells (P := Tryz.prog) g (i * 6) (zeroTerms m) 0 w hcell (fun j _ => h.frozen _) (zeroTerms_one m)
  simp only [Nat.add_zero] at hst
  obtain ⟨k, rfl⟩ : ∃ k, m = k + 1 := ⟨m - 1, by omega⟩
  unfold zeroTerms at hst
  simp [Builtin.clear_, run_underlying Tryz.underlying27, hst, zeroTerms]

theorem Terms.setBeyond {w : World} {g : Nat} {L : List TV} (h : Terms w g L) {o : Nat} (ho : L.length * 6 ≤ o) (v : Value) : Terms (w.setCell ⟨g, o, none⟩ v) g L := by
  obtain ⟨cur, hc, hsz, hf⟩ := h.ex_
  refine ⟨cur.setIfInBounds o v, by simp [World.setCell, Array.getElem?_modify, hc], by simpa using hsz, fun k u hk => ?_⟩
  have hkl : k < (flat L).length := (List.getElem?_eq_some_iff.1 hk).1
  rw [flat_length] at hkl
  rw [Array.getElem?_setIfInBounds_ne (by omega)]
  exact hf k u hk
theorem Terms.setCells {g : Nat} {L : List TV} : ∀ (vs : List Value) (o : Nat) (w : World), Terms w g L → L.length * 6 ≤ o → Terms (w.setCells g o vs) g L
  | [], _, _, h, _ => h
  | v :: r, o, w, h, ho => Terms.setCells r (o + 1) (w.setCell ⟨g, o, none⟩ v) (h.setBeyond ho v) (by omega)
theorem Only.setCells {g : Nat} {a : World} : ∀ (vs : List Value) (o : Nat) (w : World), Only g a w → Only g a (w.setCells g o vs)
  | [], _, _, h => h
  | v :: r, o, w, h => Only.setCells r (o + 1) (w.setCell ⟨g, o, none⟩ v) (h.setCell rfl v)
theorem Terms.prefix_ {w : World} {g : Nat} {L M : List TV} (h : Terms w g (L ++ M)) : Terms w g L := by
  obtain ⟨cur, hc, hsz, hf⟩ := h.ex_
  refine ⟨cur, hc, by simp at hsz; omega, fun k u hk => hf k u ?_⟩
  rw [flat_append, List.getElem?_append_left (List.getElem?_eq_some_iff.1 hk).1]
  exact hk

theorem Terms.box (w : World) (v : TV) : Terms (w.alloc (.cells #[.bool v.neg, .slice v.A v.n v.c, .int .i64 v.e.1, .int .i64 v.e.2.1, .int .i64 v.e.2.2.1, .int .i64 v.e.2.2.2] 57)) w.heap.size [v] :=
  ⟨#[.bool v.neg, .slice v.A v.n v.c, .int .i64 v.e.1, .int .i64 v.e.2.1, .int .i64 v.e.2.2.1, .int .i64 v.e.2.2.2], heap_alloc_new w _, by simp, fun k u hk => by simpa [flat, TV.cells] using hk⟩
theorem box_six {w w2 : World} (v : TV) (hb : Below (w.alloc (.cells #[.bool v.neg, .slice v.A v.n v.c, .int .i64 v.e.1, .int .i64 v.e.2.1, .int .i64 v.e.2.2.1, .int .i64 v.e.2.2.2] 57)).heap.size (w.alloc (.cells #[.bool v.neg, .slice v.A v.n v.c, .int .i64 v.e.1, .int .i64 v.e.2.1, .int .i64 v.e.2.2.1, .int .i64 v.e.2.2.2] 57)) w2) :
    w2.cell? ⟨w.heap.size, 0, none⟩ = some (.bool v.neg) ∧ w2.cell? ⟨w.heap.size, 1, none⟩ = some (.slice v.A v.n v.c) ∧ w2.cell? ⟨w.heap.size, 2, none⟩ = some (.int .i64 v.e.1) ∧
    w2.cell? ⟨w.heap.size, 3, none⟩ = some (.int .i64 v.e.2.1) ∧ w2.cell? ⟨w.heap.size, 4, none⟩ = some (.int .i64 v.e.2.2.1) ∧ w2.cell? ⟨w.heap.size, 5, none⟩ = some (.int .i64 v.e.2.2.2) := by
  have h := ((Terms.box w v).below hb).six (i := 0) (t := v) rfl
  simpa using h

/-- What is left: the terms whose coefficient is not 0. -/
def keep (zc : TV → Int) (L : List TV) : List TV := L.filter fun t => !(zc t == 0)
def DelP (g cap : Nat) (zc : TV → Int) (L : List TV) (w : World) (e : Ending) (w' : World) : Prop :=
  e = .returned (.slice (some ⟨g, 0, none⟩) (keep zc L).length cap) ∧ Terms w' g (keep zc L) ∧ Only g w w'

set_option maxRecDepth 100000 in
set_option maxHeartbeats 2000000 in
theorem delete_any (B g cap n : Nat) (zc : TV → Int) (L : List TV) (w : World) (hB : B ≤ g) (h : Terms w g L) (hn : L.length = n) (hcap : n ≤ cap) (hbd : cap ≤ 9223372036854775807) (hnb : n ≤ 1099511627776) (hc : ∀ t ∈ L, Coef B w t (zc t)) :
    Calls Tryz.prog 32 #[.slice (some ⟨g, 0, none⟩) n cap, .func (.func 33) #[] #[]] w (DelP g cap zc L w) := by
  have HI := Lib.hid (index_any B g cap n zc L w h hn hcap hbd hnb hc)
  have HC := Lib.hid hc
  have HN := Lib.hid hn
  clear hc hn
  go_enter Tryz.func32, Tryz.ntmps32
  go_wp2_with fail
  refine HI.out.mono ?_
  rintro e w1 ⟨⟨hall, rfl⟩ | ⟨X, t, Y, rfl, hX, ht, rfl⟩, hb1⟩
  · have hk : keep zc L = L := List.filter_eq_self.2 (fun s hs => by simp [hall s hs])
    have HK := Lib.hid hk
    have HT := Lib.hid (h.below hb1)
    have HO := Lib.hid ((Only.refl g w).below hb1 (Nat.le_refl _))
    clear hk hall h hb1
    go_wp2
    go_ret
    refine ⟨?_, by rw [HK.out]; exact HT.out, HO.out⟩
    rw [HK.out, HN.out]; rfl
  · have HX := Lib.hid hX
    have HT := Lib.hid ht
    have hlen : X.length + 1 + Y.length = n := by have := HN.out; simp at this; omega
    have h1 := h.below hb1
    have hO1 := (Only.refl g w).below hb1 (Nat.le_refl _)
    have hTy := h.ty
    clear hX ht h hb1
    generalize hp : X.length = p at *
    have HP := Lib.hid hp
    clear hp
    have hm1 : ((p : Int) == -1) = false := by rw [beq_eq_false_iff_ne]; omega
    go_wp2
    go_loopw [5, 6] (fun i j wr => ∃ (Y1 Y2 F R : List TV) (q r : Nat), q < r ∧ r ≤ n ∧ i = .int .i64 (q : Int) ∧ j = .int .i64 (r : Int) ∧ Terms wr g ((X ++ F) ++ (R ++ Y2)) ∧ Only g w wr ∧
      Hid (Y = Y1 ++ Y2 ∧ F = keep zc Y1 ∧ p + 1 + Y1.length = r ∧ (X ++ F).length = q ∧ R.length = r - q)) (fun _ j _ => n - (intOf j).toNat)
    case atStart => exact ⟨[], Y, [], [t], p, p + 1, by omega, by omega, rfl, by go_num, by simpa using h1, hO1, Lib.hid ⟨rfl, rfl, rfl, by simpa using HP.out, by simp⟩⟩
    case round =>
      clear h1 hO1
      obtain ⟨Y1, Y2, F, R, q, r, hqr, hrn, rfl, rfl, hT, hO, HV⟩ := hrel
      by_cases hlt : r < n
      · obtain ⟨v, Y2', rfl⟩ : ∃ v Y2', Y2 = v :: Y2' := by
          match Y2 with
          | v :: Y2' => exact ⟨v, Y2', rfl⟩
          | [] => have h1 := HV.out.1; have h2 := HV.out.2.2.1; rw [h1] at hlen; simp at hlen; omega
        have hat : ((X ++ F) ++ (R ++ v :: Y2'))[r]? = some v := by
          have e : (X ++ F) ++ (R ++ v :: Y2') = ((X ++ F) ++ R) ++ v :: Y2' := by simp
          rw [e]
          exact at_len _ v Y2' _ (by have h2 := HV.out.2.2.2.1; have h3 := HV.out.2.2.2.2; rw [List.length_append, h2, h3]; omega)
        obtain ⟨c0, c1, c2, c3, c4, c5⟩ := hT.six hat
        have hvL : v ∈ X ++ t :: Y := by rw [HV.out.1]; simp
        have hcf := (HC.out v hvL).only hO hB hTy (by decide)
        have hg := hT.lt
        have hbox : Below wr.heap.size wr (wr.alloc (.cells #[.bool v.neg, .slice v.A v.n v.c, .int .i64 v.e.1, .int .i64 v.e.2.1, .int .i64 v.e.2.2.1, .int .i64 v.e.2.2.2] 57)) := (Below.refl _ _).alloc (Nat.le_refl _) _
        have hcf2 := hcf.below hbox (Nat.le_refl _)
        have hT2 := hT.below hbox
        have hO2 := hO.below hbox (Nat.le_refl _)
        have i0 : (0 : Int) ≤ (r : Int) := by omega
        have i1 : (r : Int) < (n : Int) := by omega
        clear hat hvL hcf hbox
        by_cases hz : zc v = 0
        · have hz' : (zc v == 0) = true := by rw [hz]; rfl
          have HV2 := Lib.hid (show Y = (Y1 ++ [v]) ++ Y2' ∧ F = keep zc (Y1 ++ [v]) ∧ p + 1 + (Y1 ++ [v]).length = r + 1 ∧ (X ++ F).length = q ∧ (R ++ [v]).length = r + 1 - q from
            ⟨by rw [HV.out.1]; simp, by rw [HV.out.2.1]; simp [keep, hz], by have := HV.out.2.2.1; simp; omega, HV.out.2.2.2.1, by simp [HV.out.2.2.2.2]; omega⟩)
          clear hz
          go_wp2_with fail
          refine (zero_test B v _ _ hcf2).mono ?_
          rintro e w2 ⟨rfl, hb2⟩
          have HT3 := Lib.hid (hT2.below hb2)
          have HO3 := Lib.hid (hO2.below hb2 (Nat.le_refl _))
          clear hcf2 c0 c1 c2 c3 c4 c5 hT hO hT2 hO2 hb2
          go_wp2
          go_roundw
          case rel =>
            refine ⟨Y1 ++ [v], Y2', F, R ++ [v], q, r + 1, by omega, by omega, rfl, by go_num, ?_, HO3.out, HV2⟩
            have e : (X ++ F) ++ (R ++ v :: Y2') = (X ++ F) ++ ((R ++ [v]) ++ Y2') := by simp
            rw [← e]; exact HT3.out
          case measure => simp [intOf]; omega
        · have hz' : (zc v == 0) = false := by rw [beq_eq_false_iff_ne]; exact hz
          obtain ⟨r0, R', rfl⟩ : ∃ r0 R', R = r0 :: R' := by
            match R with
            | r0 :: R' => exact ⟨r0, R', rfl⟩
            | [] => have h1 := HV.out.2.2.2.2; simp at h1; omega
          have HV2 := Lib.hid (show Y = (Y1 ++ [v]) ++ Y2' ∧ F ++ [v] = keep zc (Y1 ++ [v]) ∧ p + 1 + (Y1 ++ [v]).length = r + 1 ∧ (X ++ (F ++ [v])).length = q + 1 ∧ (R' ++ [v]).length = r + 1 - (q + 1) from
            ⟨by rw [HV.out.1]; simp, by rw [HV.out.2.1]; simp [keep, hz], by have := HV.out.2.2.1; simp; omega, by have := HV.out.2.2.2.1; simp at this ⊢; omega, by have := HV.out.2.2.2.2; simp at this ⊢; omega⟩)
          have HPL := Lib.hid HV.out.2.2.2.1
          have i2 : (0 : Int) ≤ (q : Int) := by omega
          have i3 : (q : Int) < (n : Int) := by omega
          clear hz
          go_wp2_with fail
          refine (zero_test B v _ _ hcf2).mono ?_
          rintro e w2 ⟨rfl, hb2⟩
          obtain ⟨e0, e1, e2, e3, e4, e5⟩ := box_six v hb2
          have hT3 := hT2.below hb2
          have hO3 := hO2.below hb2 (Nat.le_refl _)
          have hat2 : ((X ++ F) ++ ((r0 :: R') ++ v :: Y2'))[q]? = some r0 := at_len _ r0 (R' ++ v :: Y2') _ HPL.out
          obtain ⟨d0, d1, d2, d3, d4, d5⟩ := hT3.six hat2
          have hfz := hT3.frozen
          have HS := Lib.hid (hT3.set6 (i := q) (by have := HPL.out; simp at this ⊢; omega) v)
          have HO3 := Lib.hid (hO3.set6 (i := q * 6) (.bool v.neg) (.slice v.A v.n v.c) (.int .i64 v.e.1) (.int .i64 v.e.2.1) (.int .i64 v.e.2.2.1) (.int .i64 v.e.2.2.2))
          clear hcf2 c0 c1 c2 c3 c4 c5 hT hO hT2 hO2 hat2 hT3 hO3
          go_wp2
          go_roundw
          case rel =>
            refine ⟨Y1 ++ [v], Y2', F ++ [v], R' ++ [v], q + 1, r + 1, by omega, by omega, by go_num, by go_num, ?_, HO3.out, HV2⟩
            have e : ((X ++ F) ++ ((r0 :: R') ++ v :: Y2')).set q v = (X ++ (F ++ [v])) ++ ((R' ++ [v]) ++ Y2') := by
              rw [← HPL.out, List.set_append_right _ _ (Nat.le_refl _)]
              simp
            rw [← e]; exact HS.out
          case measure => simp [intOf]; omega
      · have hrn' : r = n := by omega
        subst hrn'
        have hY2 : Y2 = [] := by
          have h1 := HV.out.1; have h2 := HV.out.2.2.1
          rw [h1] at hlen
          simp at hlen
          exact List.eq_nil_of_length_eq_zero (by omega)
        subst hY2
        have hfin : keep zc (X ++ t :: Y) = X ++ F := by
          have h1 := HV.out.1
          rw [List.append_nil] at h1
          rw [HV.out.2.1, ← h1]
          have h2 : X.filter (fun t => !(zc t == 0)) = X := List.filter_eq_self.2 (fun s hs => by simp [HX.out s hs])
          simp [keep, List.filter_append, HT.out, h2]
        have hpl : (X ++ F).length = q := HV.out.2.2.2.1
        have hrl : ((X ++ F) ++ (R ++ [])).length = r := by
          have := HV.out.2.2.2.2
          rw [List.length_append, hpl, List.append_nil, this]; omega
        have hcl := fun (c : Nat) (ty : TypeId) => run_clear_terms g q (r - q) c r _ wr hT hrl (by omega) (by omega) ty
        have HF := Lib.hid hfin
        have HPL := Lib.hid hpl
        have HS := Lib.hid ((hT.prefix_).setCells (zeroTerms (r - q)) (q * 6) wr (by rw [hpl]; exact Nat.le_refl _))
        have HO := Lib.hid (hO.setCells (zeroTerms (r - q)) (q * 6) wr)
        have i0 : (0 : Int) ≤ (q : Int) := by omega
        have i1 : (q : Int) ≤ (r : Int) := by omega
        have i2 : q < cap := by omega
        clear hfin hpl hrl hT hO
        go_wp2
        go_ret
        exact ⟨by rw [HF.out, HPL.out]; rfl, by rw [HF.out]; exact HS.out, HO.out⟩

theorem index_nil (w : World) :
    Calls Tryz.prog 63 #[.slice none 0 0, .func (.func 33) #[] #[]] w fun e w' => e = .returned (.int .i64 (-1)) ∧ w = w' := by
  go_enter Tryz.func63, Tryz.ntmps63
  go_wp2
  go_loop [8] (fun i => i = .int .i64 0) (fun _ => 0)
  case atStart => rfl
  case round =>
    obtain rfl := hrel
    go_wp2
    go_ret
    exact ⟨rfl, rfl⟩
theorem delete_nil (w : World) :
    Calls Tryz.prog 32 #[.slice none 0 0, .func (.func 33) #[] #[]] w fun e w' => e = .returned (.slice none 0 0) ∧ w = w' := by
  go_enter Tryz.func32, Tryz.ntmps32
  go_wp2_with fail
  refine (index_nil _).mono ?_
  rintro e w1 ⟨rfl, rfl⟩
  go_wp2
  go_ret
  exact ⟨rfl, rfl⟩
end Go.Proofs.YtnknidfpkmnncaaGreat
/- Plain laws of polynomials as lists of terms: coefficients, canonical form. -/
namespace Go.Proofs.YtnknidfpkmnncaaGreat

/-- A term: a coefficient and its exponents. -/
abbrev Tm := Int × Ex
/-- The coefficient at e. -/
def cf : List Tm → Ex → Int
  | [], _ => 0
  | p :: l, e => (if p.2 = e then p.1 else 0) + cf l e
/-- The sum of the absolute values of the coefficients. -/
def l1 : List Tm → Nat
  | [] => 0
  | p :: l => p.1.natAbs + l1 l
theorem cf_nil (e : Ex) : cf [] e = 0 := rfl
theorem cf_cons (p : Tm) (l : List Tm) (e : Ex) : cf (p :: l) e = (if p.2 = e then p.1 else 0) + cf l e := rfl
theorem l1_nil : l1 [] = 0 := rfl
theorem l1_cons (p : Tm) (l : List Tm) : l1 (p :: l) = p.1.natAbs + l1 l := rfl
theorem cf_append (a b : List Tm) (e : Ex) : cf (a ++ b) e = cf a e + cf b e := by
  induction a with
  | nil => simp [cf]
  | cons p a ih => rw [List.cons_append, cf_cons, cf_cons, ih]; omega
theorem l1_append (a b : List Tm) : l1 (a ++ b) = l1 a + l1 b := by
  induction a with
  | nil => simp [l1]
  | cons p a ih => rw [List.cons_append, l1_cons, l1_cons, ih]; omega
theorem cf_perm {a b : List Tm} (h : a.Perm b) (e : Ex) : cf a e = cf b e := by
  induction h with
  | nil => rfl
  | cons p _ ih => rw [cf_cons, cf_cons, ih]
  | swap p q l => rw [cf_cons, cf_cons, cf_cons, cf_cons]; omega
  | trans _ _ ih1 ih2 => rw [ih1, ih2]
theorem l1_perm {a b : List Tm} (h : a.Perm b) : l1 a = l1 b := by
  induction h with
  | nil => rfl
  | cons p _ ih => rw [l1_cons, l1_cons, ih]
  | swap p q l => rw [l1_cons, l1_cons, l1_cons, l1_cons]; omega
  | trans _ _ ih1 ih2 => rw [ih1, ih2]
theorem l1_mem {p : Tm} {l : List Tm} (h : p ∈ l) : p.1.natAbs ≤ l1 l := by
  induction l with
  | nil => cases h
  | cons q l ih =>
    rw [l1_cons]
    rcases List.mem_cons.1 h with rfl | h
    · omega
    · have := ih h; omega
theorem l1_filter (f : Tm → Bool) (l : List Tm) : l1 (l.filter f) ≤ l1 l := by
  induction l with
  | nil => exact Nat.le_refl _
  | cons p l ih =>
    rw [List.filter_cons, l1_cons]
    split
    · rw [l1_cons]; omega
    · omega
theorem l1_take (l : List Tm) (k : Nat) : l1 (l.take k) ≤ l1 l := by
  induction l generalizing k with
  | nil => simp [l1]
  | cons p l ih =>
    cases k with
    | zero => simp [l1]
    | succ k => rw [List.take_succ_cons, l1_cons, l1_cons]; have := ih k; omega

/-- The canonical form: exponents strictly descend, no coefficient is 0, no exponent is negative. -/
def Canon (al : List Tm) : Prop := al.Pairwise (fun p q => 0 < cmpE p.2 q.2) ∧ ∀ p ∈ al, p.1 ≠ 0 ∧ validE p.2 = true
theorem Canon.nil : Canon [] := ⟨List.Pairwise.nil, fun _ h => by cases h⟩
theorem Canon.tail {p : Tm} {l : List Tm} (h : Canon (p :: l)) : Canon l := ⟨(List.pairwise_cons.1 h.1).2, fun q hq => h.2 q (List.mem_cons_of_mem _ hq)⟩
theorem cf_far {l : List Tm} {e : Ex} (h : ∀ q ∈ l, q.2 ≠ e) : cf l e = 0 := by
  induction l with
  | nil => rfl
  | cons p l ih =>
    rw [cf_cons, if_neg (h p (by simp)), ih (fun q hq => h q (List.mem_cons_of_mem _ hq))]
    rfl
theorem cmpE_ne {e f : Ex} (h : 0 < cmpE e f) : f ≠ e := by
  rintro rfl
  have := (cmpE_zero (e := f) (f := f)).2 rfl
  omega
theorem Canon.head {p : Tm} {l : List Tm} (h : Canon (p :: l)) : cf (p :: l) p.2 = p.1 := by
  rw [cf_cons, if_pos rfl, cf_far (fun q hq => cmpE_ne ((List.pairwise_cons.1 h.1).1 q hq))]
  omega
theorem canon_unique {a b : List Tm} (ha : Canon a) (hb : Canon b) (h : ∀ e, cf a e = cf b e) : a = b := by
  induction a generalizing b with
  | nil =>
    cases b with
    | nil => rfl
    | cons q b =>
      have h1 := h q.2
      rw [hb.head] at h1
      exact absurd h1.symm (hb.2 q (by simp)).1
  | cons p a ih =>
    cases b with
    | nil =>
      have h1 := h p.2
      rw [ha.head] at h1
      exact absurd h1 (ha.2 p (by simp)).1
    | cons q b =>
      have hpq : p.2 = q.2 := by
        rcases Int.lt_trichotomy (cmpE p.2 q.2) 0 with h1 | h1 | h1
        · exfalso
          have h2 := h q.2
          rw [hb.head] at h2
          have h3 : cf (p :: a) q.2 = 0 := cf_far (fun r hr he => by
            have h5 : 0 < cmpE q.2 p.2 := by rw [cmpE_neg p.2 q.2]; omega
            rcases List.mem_cons.1 hr with rfl | hr
            · exact cmpE_ne h5 he
            · have h4 := (List.pairwise_cons.1 ha.1).1 r hr
              rw [he] at h4
              omega)
          rw [h3] at h2
          exact (hb.2 q (by simp)).1 h2.symm
        · exact cmpE_zero.1 h1
        · exfalso
          have h2 := h p.2
          rw [ha.head] at h2
          have h3 : cf (q :: b) p.2 = 0 := cf_far (fun r hr he => by
            rcases List.mem_cons.1 hr with rfl | hr
            · exact cmpE_ne h1 he
            · have h4 := (List.pairwise_cons.1 hb.1).1 r hr
              rw [he, cmpE_neg p.2 q.2] at h4
              omega)
          rw [h3] at h2
          exact (ha.2 p (by simp)).1 h2
      have hc : p.1 = q.1 := by
        have h1 := h p.2
        rw [ha.head] at h1
        rw [h1, hpq, hb.head]
      have hpq' : p = q := Prod.ext hc hpq
      subst hpq'
      rw [ih ha.tail hb.tail (fun e => by have := h e; rw [cf_cons, cf_cons] at this; omega)]

/-- One more term in a canonical list. -/
def ins (p : Tm) : List Tm → List Tm
  | [] => if p.1 = 0 then [] else [p]
  | q :: l => if 0 < cmpE p.2 q.2 then (if p.1 = 0 then q :: l else p :: q :: l)
    else if p.2 = q.2 then (if p.1 + q.1 = 0 then l else (p.1 + q.1, q.2) :: l) else q :: ins p l
theorem cf_ins (p : Tm) (l : List Tm) (e : Ex) : cf (ins p l) e = (if p.2 = e then p.1 else 0) + cf l e := by
  induction l with
  | nil =>
    unfold ins
    split
    · rename_i h; rw [h]; simp [cf]
    · simp [cf]
  | cons q l ih =>
    unfold ins
    split
    · split
      · rename_i h; rw [h]; simp
      · rw [cf_cons]
    · split
      · rename_i h1 h2
        rw [cf_cons, h2]
        split
        · rename_i h3
          split <;> omega
        · rw [cf_cons]
          split <;> omega
      · rw [cf_cons, cf_cons, ih]; omega
theorem mem_ins {p r : Tm} {l : List Tm} (h : r ∈ ins p l) : r.2 = p.2 ∨ ∃ q ∈ l, r.2 = q.2 := by
  induction l with
  | nil =>
    unfold ins at h
    split at h
    · cases h
    · left; rw [List.mem_singleton.1 h]
  | cons q l ih =>
    unfold ins at h
    split at h
    · split at h
      · right; exact ⟨r, h, rfl⟩
      · rcases List.mem_cons.1 h with rfl | h
        · left; rfl
        · right; exact ⟨r, h, rfl⟩
    · split at h
      · split at h
        · right; exact ⟨r, List.mem_cons_of_mem _ h, rfl⟩
        · rcases List.mem_cons.1 h with rfl | h
          · right; exact ⟨q, by simp, rfl⟩
          · right; exact ⟨r, List.mem_cons_of_mem _ h, rfl⟩
      · rcases List.mem_cons.1 h with rfl | h
        · right; exact ⟨r, by simp, rfl⟩
        · rcases ih h with h1 | ⟨q', hq', h1⟩
          · left; exact h1
          · right; exact ⟨q', List.mem_cons_of_mem _ hq', h1⟩
theorem canon_ins {p : Tm} {l : List Tm} (h : Canon l) (hv : validE p.2 = true) : Canon (ins p l) := by
  induction l with
  | nil =>
    unfold ins
    split
    · exact h
    · rename_i hp
      exact ⟨by simp, fun q hq => by rw [List.mem_singleton.1 hq]; exact ⟨hp, hv⟩⟩
  | cons q l ih =>
    have ht := h.tail
    have hq := List.pairwise_cons.1 h.1
    unfold ins
    split
    · rename_i h1
      split
      · exact h
      · rename_i hp
        refine ⟨List.pairwise_cons.2 ⟨fun r hr => ?_, h.1⟩, fun r hr => ?_⟩
        · rcases List.mem_cons.1 hr with rfl | hr
          · exact h1
          · have h2 := hq.1 r hr
            have h3 := cmpTo_trans (e := p.2) (f := q.2) (g := r.2) 4 (by show 0 ≤ cmpE _ _; omega) (by show 0 ≤ cmpE _ _; omega)
            have h4 : 0 ≤ cmpE p.2 r.2 := h3.1
            have h5 : cmpE p.2 r.2 ≠ 0 := fun h6 => by
              have h7 := (h3.2 h6).1
              have : cmpE p.2 q.2 = 0 := h7
              omega
            omega
        · rcases List.mem_cons.1 hr with rfl | hr
          · exact ⟨hp, hv⟩
          · exact h.2 r hr
    · split
      · rename_i h1 h2
        split
        · exact ht
        · rename_i h3
          refine ⟨List.pairwise_cons.2 ⟨fun r hr => hq.1 r hr, hq.2⟩, fun r hr => ?_⟩
          rcases List.mem_cons.1 hr with rfl | hr
          · exact ⟨h3, (h.2 q (by simp)).2⟩
          · exact h.2 r (List.mem_cons_of_mem _ hr)
      · rename_i h1 h2
        have hi := ih ht
        refine ⟨List.pairwise_cons.2 ⟨fun r hr => ?_, hi.1⟩, fun r hr => ?_⟩
        · rcases mem_ins hr with h3 | ⟨s, hs, h3⟩
          · rw [h3, cmpE_neg p.2 q.2]
            have : cmpE p.2 q.2 ≠ 0 := fun h4 => h2 (cmpE_zero.1 h4)
            omega
          · rw [h3]; exact hq.1 s hs
        · rcases List.mem_cons.1 hr with rfl | hr
          · exact h.2 r (by simp)
          · exact hi.2 r hr
theorem l1_ins (p : Tm) (l : List Tm) : l1 (ins p l) ≤ p.1.natAbs + l1 l := by
  induction l with
  | nil => unfold ins; split <;> simp [l1]
  | cons q l ih =>
    unfold ins
    split
    · split
      · omega
      · rw [l1_cons]; exact Nat.le_refl _
    · split
      · split
        · rw [l1_cons]; omega
        · rw [l1_cons, l1_cons]; simp only; omega
      · rw [l1_cons, l1_cons]; omega
theorem length_ins (p : Tm) (l : List Tm) : (ins p l).length ≤ l.length + 1 := by
  induction l with
  | nil => unfold ins; split <;> simp
  | cons q l ih =>
    unfold ins
    split
    · split <;> simp
    · split
      · split <;> simp; omega
      · simp; exact ih

/-- The terms without a negative exponent. -/
def valids (al : List Tm) : List Tm := al.filter fun p => validE p.2
/-- The canonical form. -/
def nf (al : List Tm) : List Tm := (valids al).foldr ins []
theorem canon_foldr (al : List Tm) (h : ∀ p ∈ al, validE p.2 = true) : Canon (al.foldr ins []) := by
  induction al with
  | nil => exact Canon.nil
  | cons p al ih => exact canon_ins (ih fun q hq => h q (List.mem_cons_of_mem _ hq)) (h p (by simp))
theorem valids_valid (al : List Tm) : ∀ p ∈ valids al, validE p.2 = true := fun p hp => by
  have := (List.mem_filter.1 hp).2
  simpa using this
theorem nf_canon (al : List Tm) : Canon (nf al) := canon_foldr _ (valids_valid al)
theorem cf_foldr (al : List Tm) (e : Ex) : cf (al.foldr ins []) e = cf al e := by
  induction al with
  | nil => rfl
  | cons p al ih => rw [List.foldr_cons, cf_ins, ih, cf_cons]
theorem cf_nf (al : List Tm) (e : Ex) : cf (nf al) e = cf (valids al) e := cf_foldr _ e
theorem l1_foldr (al : List Tm) : l1 (al.foldr ins []) ≤ l1 al := by
  induction al with
  | nil => exact Nat.le_refl _
  | cons p al ih => rw [List.foldr_cons, l1_cons]; have := l1_ins p (al.foldr ins []); omega
theorem l1_nf (al : List Tm) : l1 (nf al) ≤ l1 al := Nat.le_trans (l1_foldr _) (l1_filter _ _)
theorem length_foldr (al : List Tm) : (al.foldr ins []).length ≤ al.length := by
  induction al with
  | nil => exact Nat.le_refl _
  | cons p al ih => rw [List.foldr_cons, List.length_cons]; have := length_ins p (al.foldr ins []); omega
theorem length_nf (al : List Tm) : (nf al).length ≤ al.length := Nat.le_trans (length_foldr _) (List.length_filter_le _ _)
theorem valids_of_canon {al : List Tm} (h : Canon al) : valids al = al := List.filter_eq_self.2 fun p hp => (h.2 p hp).2
/-- What is canonical and has the coefficients is the canonical form. -/
theorem eq_nf {al r : List Tm} (hr : Canon r) (h : ∀ e, cf r e = cf (valids al) e) : r = nf al := canon_unique hr (nf_canon al) fun e => by rw [h e, cf_nf]
theorem nf_of_canon {al : List Tm} (h : Canon al) : nf al = al := (eq_nf h fun e => by rw [valids_of_canon h]).symm
theorem nf_nf (al : List Tm) : nf (nf al) = nf al := nf_of_canon (nf_canon al)

/-- One more term in the merging loop: it is added to the last one, or stands behind it. -/
def mstep (out : List Tm) (p : Tm) : List Tm :=
  match out.getLast? with
  | some q => if q.2 = p.2 then out.dropLast ++ [(q.1 + p.1, q.2)] else out ++ [p]
  | none => [p]
theorem mstep_nil (p : Tm) : mstep [] p = [p] := rfl
theorem mstep_same (O : List Tm) (q p : Tm) (h : q.2 = p.2) : mstep (O ++ [q]) p = O ++ [(q.1 + p.1, q.2)] := by
  simp [mstep, h]
theorem mstep_other (O : List Tm) (q p : Tm) (h : q.2 ≠ p.2) : mstep (O ++ [q]) p = O ++ [q] ++ [p] := by
  simp [mstep, h]
theorem cf_mstep (out : List Tm) (p : Tm) (e : Ex) : cf (mstep out p) e = cf out e + (if p.2 = e then p.1 else 0) := by
  rcases List.eq_nil_or_concat out with rfl | ⟨O, q, rfl⟩
  · simp [mstep_nil, cf]
  · rw [List.concat_eq_append]
    by_cases h : q.2 = p.2
    · rw [mstep_same O q p h, cf_append, cf_append, cf_cons, cf_cons, h]
      simp only [cf_nil]
      split <;> omega
    · rw [mstep_other O q p h, cf_append, cf_cons]
      simp only [cf_nil]
      omega
theorem l1_mstep (out : List Tm) (p : Tm) : l1 (mstep out p) ≤ l1 out + p.1.natAbs := by
  rcases List.eq_nil_or_concat out with rfl | ⟨O, q, rfl⟩
  · simp [mstep_nil, l1]
  · rw [List.concat_eq_append]
    by_cases h : q.2 = p.2
    · rw [mstep_same O q p h, l1_append, l1_append, l1_cons, l1_cons, l1_nil]
      simp only
      omega
    · rw [mstep_other O q p h, l1_append, l1_cons, l1_nil]; omega
theorem length_mstep (out : List Tm) (p : Tm) : (mstep out p).length ≤ out.length + 1 := by
  rcases List.eq_nil_or_concat out with rfl | ⟨O, q, rfl⟩
  · simp [mstep_nil]
  · rw [List.concat_eq_append]
    by_cases h : q.2 = p.2
    · rw [mstep_same O q p h]; simp
    · rw [mstep_other O q p h]; simp
/-- The state of the merging: exponents strictly descend, the last one is not above what comes. -/
def MOk (out : List Tm) : Prop := out.Pairwise (fun p q => 0 < cmpE p.2 q.2) ∧ ∀ p ∈ out, validE p.2 = true
theorem MOk.step {out : List Tm} {p : Tm} (h : MOk out) (hv : validE p.2 = true) (hl : ∀ q ∈ out, 0 ≤ cmpE q.2 p.2) : MOk (mstep out p) := by
  rcases List.eq_nil_or_concat out with rfl | ⟨O, q, rfl⟩
  · rw [mstep_nil]
    exact ⟨by simp, fun r hr => by rw [List.mem_singleton.1 hr]; exact hv⟩
  · rw [List.concat_eq_append] at h hl ⊢
    by_cases he : q.2 = p.2
    · rw [mstep_same O q p he]
      have h1 := List.pairwise_append.1 h.1
      refine ⟨List.pairwise_append.2 ⟨h1.1, by simp, fun a ha b hb => ?_⟩, fun r hr => ?_⟩
      · rw [List.mem_singleton.1 hb]
        exact h1.2.2 a ha q (by simp)
      · rcases List.mem_append.1 hr with hr | hr
        · exact h.2 r (List.mem_append_left _ hr)
        · rw [List.mem_singleton.1 hr]; exact h.2 q (by simp)
    · rw [mstep_other O q p he]
      refine ⟨List.pairwise_append.2 ⟨h.1, by simp, fun a ha b hb => ?_⟩, fun r hr => ?_⟩
      · rw [List.mem_singleton.1 hb]
        have h0 := hl a ha
        rcases List.mem_append.1 ha with ha | ha
        · have h1 := (List.pairwise_append.1 h.1).2.2 a ha q (by simp)
          have h2 := hl q (by simp)
          have h3 := cmpTo_trans (e := a.2) (f := q.2) (g := p.2) 4 (by show 0 ≤ cmpE _ _; omega) h2
          have h5 : cmpE a.2 p.2 ≠ 0 := fun h6 => by
            have h7 : cmpE a.2 q.2 = 0 := (h3.2 h6).1
            omega
          omega
        · rw [List.mem_singleton.1 ha] at h0 ⊢
          have : cmpE q.2 p.2 ≠ 0 := fun h4 => he (cmpE_zero.1 h4)
          omega
      · rcases List.mem_append.1 hr with hr | hr
        · exact h.2 r hr
        · rw [List.mem_singleton.1 hr]; exact hv
theorem mem_mstep {out : List Tm} {p r : Tm} (h : r ∈ mstep out p) : r.2 = p.2 ∨ ∃ q ∈ out, r.2 = q.2 := by
  rcases List.eq_nil_or_concat out with rfl | ⟨O, q, rfl⟩
  · rw [mstep_nil] at h; left; rw [List.mem_singleton.1 h]
  · rw [List.concat_eq_append] at h ⊢
    by_cases he : q.2 = p.2
    · rw [mstep_same O q p he] at h
      rcases List.mem_append.1 h with h | h
      · right; exact ⟨r, List.mem_append_left _ h, rfl⟩
      · left; rw [List.mem_singleton.1 h]; exact he
    · rw [mstep_other O q p he] at h
      rcases List.mem_append.1 h with h | h
      · right; exact ⟨r, h, rfl⟩
      · left; rw [List.mem_singleton.1 h]
/-- The merging of a sorted list. -/
def merged (al : List Tm) : List Tm := al.foldl mstep []
theorem merged_snoc (al : List Tm) (p : Tm) : merged (al ++ [p]) = mstep (merged al) p := by simp [merged]
theorem merged_facts (al : List Tm) (hs : al.Pairwise (fun p q => 0 ≤ cmpE p.2 q.2)) (hv : ∀ p ∈ al, validE p.2 = true) :
    MOk (merged al) ∧ (∀ e, cf (merged al) e = cf al e) ∧ l1 (merged al) ≤ l1 al ∧ (merged al).length ≤ al.length ∧ (∀ r ∈ merged al, ∃ q ∈ al, r.2 = q.2) := by
  obtain ⟨n, hn⟩ : ∃ n, al.length = n := ⟨_, rfl⟩
  induction n generalizing al with
  | zero =>
    have : al = [] := List.eq_nil_of_length_eq_zero hn
    subst this
    exact ⟨⟨List.Pairwise.nil, fun _ h => by cases h⟩, fun _ => rfl, Nat.le_refl _, Nat.le_refl _, fun _ h => by cases h⟩
  | succ n ih =>
    rcases List.eq_nil_or_concat al with rfl | ⟨a, p, rfl⟩
    · simp at hn
    · rw [List.concat_eq_append] at *
      have hl : a.length = n := by simpa using hn
      have hs' := List.pairwise_append.1 hs
      obtain ⟨i1, i2, i3, i4, i5⟩ := ih a hs'.1 (fun q hq => hv q (List.mem_append_left _ hq)) hl
      rw [merged_snoc]
      refine ⟨i1.step (hv p (by simp)) (fun q hq => ?_), fun e => ?_, ?_, ?_, fun r hr => ?_⟩
      · obtain ⟨q', hq', he⟩ := i5 q hq
        rw [he]; exact hs'.2.2 q' hq' p (by simp)
      · rw [cf_mstep, i2, cf_append, cf_cons, cf_nil]; omega
      · have := l1_mstep (merged a) p; rw [l1_append, l1_cons, l1_nil]; omega
      · have := length_mstep (merged a) p; simp; omega
      · rcases mem_mstep hr with h | ⟨q, hq, h⟩
        · exact ⟨p, by simp, h⟩
        · obtain ⟨q', hq', he⟩ := i5 q hq
          exact ⟨q', List.mem_append_left _ hq', h.trans he⟩
/-- The terms whose coefficient is not 0. -/
def nonzero (al : List Tm) : List Tm := al.filter fun p => !(p.1 == 0)
theorem cf_nonzero (al : List Tm) (e : Ex) : cf (nonzero al) e = cf al e := by
  induction al with
  | nil => rfl
  | cons p al ih =>
    unfold nonzero at ih ⊢
    rw [List.filter_cons, cf_cons]
    split
    · rw [cf_cons, ih]
    · rename_i h
      have : p.1 = 0 := by simpa using h
      rw [ih, this]; simp
/-- What Normal comes to. -/
theorem normal_eq {al sl : List Tm} (hp : sl.Perm (valids al)) (hs : sl.Pairwise (fun p q => 0 ≤ cmpE p.2 q.2)) : nonzero (merged sl) = nf al := by
  have hv : ∀ p ∈ sl, validE p.2 = true := fun p hm => valids_valid al p (hp.mem_iff.1 hm)
  obtain ⟨h1, h2, _⟩ := merged_facts sl hs hv
  refine eq_nf ⟨h1.1.filter _, fun p hm => ?_⟩ fun e => by rw [cf_nonzero, h2, cf_perm hp]
  have := List.mem_filter.1 hm
  exact ⟨by simpa using this.2, h1.2 p this.1⟩
end Go.Proofs.YtnknidfpkmnncaaGreat
