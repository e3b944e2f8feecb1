/- Rows of terms; the insertion sort of the library over them. -/
import Derived.Test.YtnknidfpkmnncaaC2
import Derived.IntWalk
import Derived.ChangeAlike
namespace Go.Proofs.Ytnknidfpkmnncaa
open Go.RowKit

/-- A term as its six cells hold it. -/
structure TV where
  neg : Bool
  A : Option Addr
  n : Nat
  c : Nat
  e : Ex
def TV.cells (t : TV) : List Value := [.bool t.neg, .slice t.A t.n t.c, .int .i64 t.e.1, .int .i64 t.e.2.1, .int .i64 t.e.2.2.1, .int .i64 t.e.2.2.2]
def flat (L : List TV) : List Value := L.flatMap TV.cells
theorem flat_nil : flat [] = [] := rfl
theorem flat_cons (t : TV) (L : List TV) : flat (t :: L) = t.cells ++ flat L := rfl
theorem flat_append (L M : List TV) : flat (L ++ M) = flat L ++ flat M := by simp [flat]
theorem TV.cells_length (t : TV) : t.cells.length = 6 := rfl
theorem flat_length (L : List TV) : (flat L).length = L.length * 6 := by
  induction L with
  | nil => rfl
  | cons t L ih => rw [flat_cons, List.length_append, ih, TV.cells_length, List.length_cons]; omega
theorem flat_at (L : List TV) (i : Nat) (t : TV) (h : L[i]? = some t) (j : Nat) (hj : j < 6) : (flat L)[i * 6 + j]? = t.cells[j]? := by
  induction L generalizing i with
  | nil => simp at h
  | cons s L ih =>
    cases i with
    | zero =>
      simp at h
      subst h
      rw [flat_cons, Nat.zero_mul, Nat.zero_add, List.getElem?_append_left (by rw [TV.cells_length]; exact hj)]
    | succ i =>
      have h' : L[i]? = some t := by simpa using h
      rw [flat_cons, List.getElem?_append_right (by rw [TV.cells_length]; omega), TV.cells_length, show (i + 1) * 6 + j - 6 = i * 6 + j by omega]
      exact ih i h'
theorem flat_take (L : List TV) (m : Nat) : (flat L).take (m * 6) = flat (L.take m) := by
  induction L generalizing m with
  | nil => simp [flat]
  | cons t L ih =>
    cases m with
    | zero => simp [flat]
    | succ m =>
      rw [List.take_succ_cons, flat_cons, flat_cons, List.take_append, TV.cells_length, List.take_of_length_le (by rw [TV.cells_length]; omega), show (m + 1) * 6 - 6 = m * 6 by omega, ih]

/-- Block g is a row of terms whose first ones are L. -/
structure Terms (w : World) (g : Nat) (L : List TV) : Prop where
  ex_ : ∃ cur : Array Value, w.heap[g]? = some (.cells cur 80 (0, 0)) ∧ L.length * 6 ≤ cur.size ∧ ∀ (k : Nat) (u : Value), (flat L)[k]? = some u → cur[k]? = some u
theorem Terms.cell {w : World} {g : Nat} {L : List TV} (h : Terms w g L) {k : Nat} {u : Value} (hk : (flat L)[k]? = some u) : w.cell? ⟨g, k, none⟩ = some u := by
  obtain ⟨cur, hc, _, hf⟩ := h.ex_
  rw [cell_of_row w g k _ _ _ hc]
  exact hf k u hk
theorem Terms.frozen {w : World} {g : Nat} {L : List TV} (h : Terms w g L) (k : Nat) : w.frozen? ⟨g, k, none⟩ = false := by
  obtain ⟨cur, hc, _, hf⟩ := h.ex_
  simp [World.frozen?, hc]
theorem Terms.six {w : World} {g : Nat} {L : List TV} (h : Terms w g L) {i : Nat} {t : TV} (ht : L[i]? = some t) :
    w.cell? ⟨g, i * 6, none⟩ = some (.bool t.neg) ∧ w.cell? ⟨g, i * 6 + 1, none⟩ = some (.slice t.A t.n t.c) ∧ w.cell? ⟨g, i * 6 + 2, none⟩ = some (.int .i64 t.e.1) ∧
    w.cell? ⟨g, i * 6 + 3, none⟩ = some (.int .i64 t.e.2.1) ∧ w.cell? ⟨g, i * 6 + 4, none⟩ = some (.int .i64 t.e.2.2.1) ∧ w.cell? ⟨g, i * 6 + 5, none⟩ = some (.int .i64 t.e.2.2.2) :=
  ⟨h.cell (flat_at L i t ht 0 (by omega)), h.cell (flat_at L i t ht 1 (by omega)), h.cell (flat_at L i t ht 2 (by omega)), h.cell (flat_at L i t ht 3 (by omega)), h.cell (flat_at L i t ht 4 (by omega)), h.cell (flat_at L i t ht 5 (by omega))⟩

theorem Terms.lt {w : World} {g : Nat} {L : List TV} (h : Terms w g L) : g < w.heap.size := by
  obtain ⟨cur, hc, _⟩ := h.ex_
  rcases Nat.lt_or_ge g w.heap.size with hlt | hge
  · exact hlt
  · rw [Array.getElem?_eq_none hge] at hc; cases hc
theorem Terms.below {w w' : World} {g : Nat} {L : List TV} (h : Terms w g L) (hb : Below w.heap.size w w') : Terms w' g L := by
  have hl := h.lt
  obtain ⟨cur, hc, h2⟩ := h.ex_
  exact ⟨cur, (hb.block g hl).trans hc, h2⟩
theorem Terms.drewN {w : World} {g : Nat} {L : List TV} (h : Terms w g L) (n : Nat) : Terms (w.drewN n) g L := h.below (((Drawn.refl w).drewN n).below w.heap.size)
theorem Terms.drew {w : World} {g : Nat} {L : List TV} (h : Terms w g L) : Terms w.drew g L := h.below ((Below.refl _ _).drew)
/-- The twelve cells of two neighbours. -/
abbrev Held12 (w' : World) (g m : Nat) (t s : TV) : Prop :=
  w'.cell? ⟨g, (m + 1) * 6, none⟩ = some (.bool t.neg) ∧ w'.cell? ⟨g, (m + 1) * 6 + 1, none⟩ = some (.slice t.A t.n t.c) ∧ w'.cell? ⟨g, (m + 1) * 6 + 2, none⟩ = some (.int .i64 t.e.1) ∧ w'.cell? ⟨g, (m + 1) * 6 + 3, none⟩ = some (.int .i64 t.e.2.1) ∧ w'.cell? ⟨g, (m + 1) * 6 + 4, none⟩ = some (.int .i64 t.e.2.2.1) ∧ w'.cell? ⟨g, (m + 1) * 6 + 5, none⟩ = some (.int .i64 t.e.2.2.2) ∧
  w'.cell? ⟨g, m * 6, none⟩ = some (.bool s.neg) ∧ w'.cell? ⟨g, m * 6 + 1, none⟩ = some (.slice s.A s.n s.c) ∧ w'.cell? ⟨g, m * 6 + 2, none⟩ = some (.int .i64 s.e.1) ∧ w'.cell? ⟨g, m * 6 + 3, none⟩ = some (.int .i64 s.e.2.1) ∧ w'.cell? ⟨g, m * 6 + 4, none⟩ = some (.int .i64 s.e.2.2.1) ∧ w'.cell? ⟨g, m * 6 + 5, none⟩ = some (.int .i64 s.e.2.2.2)
theorem Terms.held {w : World} {g m : Nat} {L : List TV} {t s : TV} (h : Terms w g L) (ht : L[m + 1]? = some t) (hs : L[m]? = some s) : Held12 w g m t s := by
  obtain ⟨c0, c1, c2, c3, c4, c5⟩ := h.six ht
  obtain ⟨d0, d1, d2, d3, d4, d5⟩ := h.six hs
  exact ⟨c0, c1, c2, c3, c4, c5, d0, d1, d2, d3, d4, d5⟩

theorem Terms.set6 {w : World} {g i : Nat} {L : List TV} (h : Terms w g L) (hi : i < L.length) (t : TV) :
    Terms ((((((w.setCell ⟨g, i * 6, none⟩ (.bool t.neg)).setCell ⟨g, i * 6 + 1, none⟩ (.slice t.A t.n t.c)).setCell ⟨g, i * 6 + 2, none⟩ (.int .i64 t.e.1)).setCell ⟨g, i * 6 + 3, none⟩ (.int .i64 t.e.2.1)).setCell ⟨g, i * 6 + 4, none⟩ (.int .i64 t.e.2.2.1)).setCell ⟨g, i * 6 + 5, none⟩ (.int .i64 t.e.2.2.2)) g (L.set i t) := by
  obtain ⟨cur, hc, hsz, hf⟩ := h.ex_
  have hfl : ∀ k u, (flat (L.set i t))[k]? = some u → (if i * 6 ≤ k ∧ k < i * 6 + 6 then t.cells[k - i * 6]? else (flat L)[k]?) = some u := by
    intro k u hk
    have hkl : k < (flat (L.set i t)).length := (List.getElem?_eq_some_iff.1 hk).1
    rw [flat_length, List.length_set] at hkl
    obtain ⟨q, r, hr, rfl⟩ : ∃ q r, r < 6 ∧ k = q * 6 + r := ⟨k / 6, k % 6, Nat.mod_lt _ (by omega), by omega⟩
    have hq : q < L.length := by omega
    by_cases hqi : q = i
    · subst hqi
      rw [if_pos (by omega), show q * 6 + r - q * 6 = r by omega]
      rw [flat_at _ q t (by simp [hq]) r hr] at hk
      exact hk
    · rw [if_neg (by omega)]
      have he : L[q]? = some L[q] := List.getElem?_eq_getElem hq
      rw [flat_at _ q L[q] (by rw [List.getElem?_set_ne (Ne.symm hqi)]; exact he) r hr] at hk
      rw [flat_at _ q L[q] he r hr]
      exact hk
  refine ⟨(((((cur.setIfInBounds (i * 6) (.bool t.neg)).setIfInBounds (i * 6 + 1) (.slice t.A t.n t.c)).setIfInBounds (i * 6 + 2) (.int .i64 t.e.1)).setIfInBounds (i * 6 + 3) (.int .i64 t.e.2.1)).setIfInBounds (i * 6 + 4) (.int .i64 t.e.2.2.1)).setIfInBounds (i * 6 + 5) (.int .i64 t.e.2.2.2), ?_, by simpa using hsz, fun k u hk => ?_⟩
  · simp [World.setCell, Array.getElem?_modify, hc]
  · have h1 := hfl k u hk
    have hi6 : i * 6 + 6 ≤ cur.size := by omega
    by_cases hin : i * 6 ≤ k ∧ k < i * 6 + 6
    · rw [if_pos hin] at h1
      obtain ⟨r, hr, rfl⟩ : ∃ r, r < 6 ∧ k = i * 6 + r := ⟨k - i * 6, by omega, by omega⟩
      rw [show i * 6 + r - i * 6 = r by omega] at h1
      match r, hr, h1 with
      | 0, _, h1 => simp [TV.cells] at h1; subst h1; simp [Array.getElem?_setIfInBounds]; omega
      | 1, _, h1 => simp [TV.cells] at h1; subst h1; simp [Array.getElem?_setIfInBounds]; omega
      | 2, _, h1 => simp [TV.cells] at h1; subst h1; simp [Array.getElem?_setIfInBounds]; omega
      | 3, _, h1 => simp [TV.cells] at h1; subst h1; simp [Array.getElem?_setIfInBounds]; omega
      | 4, _, h1 => simp [TV.cells] at h1; subst h1; simp [Array.getElem?_setIfInBounds]; omega
      | 5, _, h1 => simp [TV.cells] at h1; subst h1; simp [Array.getElem?_setIfInBounds]; omega
    · rw [if_neg hin] at h1
      rw [Array.getElem?_setIfInBounds_ne (by omega), Array.getElem?_setIfInBounds_ne (by omega), Array.getElem?_setIfInBounds_ne (by omega), Array.getElem?_setIfInBounds_ne (by omega), Array.getElem?_setIfInBounds_ne (by omega), Array.getElem?_setIfInBounds_ne (by omega)]
      exact hf k u h1

/-- Only block g, and what is new, has turned. -/
def Only (g : Nat) (w w' : World) : Prop := w.grownBy w' (some g)
theorem Only.refl (g : Nat) (w : World) : Only g w w := World.grownBy.refl w _
theorem Only.below {g : Nat} {a w w' : World} (h : Only g a w) {B : Nat} (hb : Below B w w') (hB : w.heap.size ≤ B) : Only g a w' :=
  ⟨hb.os.trans h.os, hb.tape.trans h.tape, hb.output.trans h.output, Nat.le_trans h.size hb.size, fun i hi hne => (hb.block i (by have := h.size; omega)).trans (h.block i hi hne)⟩
theorem Only.drew {g : Nat} {a w : World} (h : Only g a w) : Only g a w.drew := h.below ((Below.refl w.heap.size w).drew) (Nat.le_refl _)
theorem Only.drewN {g : Nat} {a w : World} (h : Only g a w) (n : Nat) : Only g a (w.drewN n) := h.below (((Drawn.refl w).drewN n).below w.heap.size) (Nat.le_refl _)
theorem Only.trans {g : Nat} {a w w' : World} (h : Only g a w) (k : Only g w w') : Only g a w' :=
  ⟨k.os.trans h.os, k.tape.trans h.tape, k.output.trans h.output, Nat.le_trans h.size k.size, fun i hi hne => (k.block i (by have := h.size; omega) hne).trans (h.block i hi hne)⟩
theorem Only.setCell {g : Nat} {a w : World} (h : Only g a w) {p : Addr} (hp : p.block = g) (u : Value) : Only g a (w.setCell p u) :=
  ⟨h.os, h.tape, h.output, by simpa [World.setCell] using h.size, fun i hi hne => (Below.heap_setCell w p u i (by rintro rfl; exact hne (by rw [hp]))).trans (h.block i hi hne)⟩

theorem Only.set6 {g i : Nat} {a w : World} (h : Only g a w) (u0 u1 u2 u3 u4 u5 : Value) :
    Only g a ((((((w.setCell ⟨g, i, none⟩ u0).setCell ⟨g, i + 1, none⟩ u1).setCell ⟨g, i + 2, none⟩ u2).setCell ⟨g, i + 3, none⟩ u3).setCell ⟨g, i + 4, none⟩ u4).setCell ⟨g, i + 5, none⟩ u5) :=
  (((((h.setCell (p := ⟨g, i, none⟩) rfl u0).setCell (p := ⟨g, i + 1, none⟩) rfl u1).setCell (p := ⟨g, i + 2, none⟩) rfl u2).setCell (p := ⟨g, i + 3, none⟩) rfl u3).setCell (p := ⟨g, i + 4, none⟩) rfl u4).setCell (p := ⟨g, i + 5, none⟩) rfl u5
/-- The world behind the exchange of two neighbours. -/
theorem Terms.swap {w : World} {g m : Nat} {U Q : List TV} {s t : TV} (h : Terms w g (U ++ s :: t :: Q)) (hm : U.length = m) :
    Terms ((((((((((((w.setCell ⟨g, (m + 1) * 6, none⟩ (.bool s.neg)).setCell ⟨g, (m + 1) * 6 + 1, none⟩ (.slice s.A s.n s.c)).setCell ⟨g, (m + 1) * 6 + 2, none⟩ (.int .i64 s.e.1)).setCell ⟨g, (m + 1) * 6 + 3, none⟩ (.int .i64 s.e.2.1)).setCell ⟨g, (m + 1) * 6 + 4, none⟩ (.int .i64 s.e.2.2.1)).setCell ⟨g, (m + 1) * 6 + 5, none⟩ (.int .i64 s.e.2.2.2)).setCell
      ⟨g, m * 6, none⟩ (.bool t.neg)).setCell ⟨g, m * 6 + 1, none⟩ (.slice t.A t.n t.c)).setCell ⟨g, m * 6 + 2, none⟩ (.int .i64 t.e.1)).setCell ⟨g, m * 6 + 3, none⟩ (.int .i64 t.e.2.1)).setCell ⟨g, m * 6 + 4, none⟩ (.int .i64 t.e.2.2.1)).setCell ⟨g, m * 6 + 5, none⟩ (.int .i64 t.e.2.2.2)) g (U ++ t :: s :: Q) := by
  have h1 := h.set6 (i := m + 1) (by simp; omega) s
  have h2 := h1.set6 (i := m) (by simp; omega) t
  rw [swap_len U s t Q m hm] at h2
  exact h2

/-- The order of the terms: exponents descend. -/
def Desc (s t : TV) : Prop := 0 ≤ cmpE s.e t.e
theorem Desc.trans (a b c : TV) (h : Desc a b) (k : Desc b c) : Desc a c := cmpE_trans h k
/-- What the insertion sort leaves: block g bears P, a sorted permutation of M, S. -/
def SortP (g : Nat) (P M S : List TV) (w : World) (e : Ending) (w' : World) : Prop :=
  e = .returned (.tuple #[]) ∧ ∃ M', M'.Perm M ∧ M'.Pairwise Desc ∧ Terms w' g (P ++ (M' ++ S)) ∧ Only g w w'

set_option maxRecDepth 100000 in
set_option maxHeartbeats 2000000 in
theorem insertion_any (g cap a b n : Nat) (P M S : List TV) (w : World) (h : Terms w g (P ++ (M ++ S))) (hn : (P ++ (M ++ S)).length = n) (hP : P.length = a) (hM : P.length + M.length = b) (hcap : n ≤ cap) (hbd : cap ≤ 9223372036854775807) (hnb : n ≤ 1099511627776) :
    Calls Try.prog 83 #[.slice (some ⟨g, 0, none⟩) n cap, .int .i64 a, .int .i64 b, .func (.func 46) #[] #[]] w (SortP g P M S w) := by
  have hab : a ≤ b := by omega
  have hb : b ≤ n := by simp at hn; omega
  have HN := Lib.hid hn
  have HP := Lib.hid hP
  have HM := Lib.hid hM
  clear hn hP hM
  go_enter Try.func83, Try.ntmps83
  go_wp2
  go_loopw [8] (fun i wr => ∃ (k : Nat) (X Y : List TV), a + 1 ≤ k ∧ k ≤ b + 1 ∧ i = .int .i64 k ∧ Terms wr g (P ++ ((X ++ Y) ++ S)) ∧ Hid (X.length = min (k - a) (b - a) ∧ (X ++ Y).Perm M ∧ X.Pairwise Desc ∧ Only g w wr)) (fun i _ => (b + 1 - (intOf i).toNat))
  case atStart => 
    refine ⟨a + 1, M.take 1, M.drop 1, by omega, by omega, by go_num, by rw [List.take_append_drop]; exact h, Lib.hid ⟨?_, by rw [List.take_append_drop], ?_, Only.refl _ _⟩⟩
    · rw [List.length_take]; have := HP.out; have := HM.out; omega
    · match M with
      | [] => simp
      | [x] => simp
      | x :: y :: r => simp
  case round =>
    obtain ⟨k, X, Y, hk, hkb, rfl, hT, HX⟩ := hrel
    by_cases hlt : k < b
    · obtain ⟨x, Y', rfl⟩ : ∃ x Y', Y = x :: Y' := by
        match Y with
        | x :: Y' => exact ⟨x, Y', rfl⟩
        | [] =>
          exfalso
          have h1 := HX.out.1
          have h2 := HX.out.2.1.length_eq
          have := HP.out; have := HM.out
          simp at h2
          omega
      go_wp2
      go_loopw [9] (fun i wq => ∃ (j : Nat) (X1 X2 : List TV), a ≤ j ∧ j ≤ k ∧ i = .int .i64 j ∧ Terms wq g ((P ++ X1) ++ x :: (X2 ++ (Y' ++ S))) ∧ Hid (X = X1 ++ X2 ∧ (P ++ X1).length = j ∧ (∀ y ∈ X2, cmpE y.e x.e < 0) ∧ Only g w wq)) (fun i _ => ((intOf i).toNat))
      case atStart =>
        refine ⟨k, X, [], by omega, Nat.le_refl _, rfl, ?_, Lib.hid ⟨by simp, ?_, by simp, HX.out.2.2.2⟩⟩
        · have e : P ++ ((X ++ x :: Y') ++ S) = (P ++ X) ++ x :: ([] ++ (Y' ++ S)) := by simp
          rw [← e]; exact hT
        · have h1 := HX.out.1; have h2 := HP.out
          rw [List.length_append, h1, h2]; omega
      case round =>
        clear hT
        obtain ⟨j, X1, X2, hja, hjk, rfl, hT, HI⟩ := hrel
        by_cases hgt : a < j
        · obtain ⟨m, rfl⟩ : ∃ m, j = m + 1 := ⟨j - 1, by omega⟩
          obtain ⟨U, s, rfl⟩ : ∃ U s, X1 = U ++ [s] := by
            rcases List.eq_nil_or_concat X1 with h0 | ⟨U, s, hU⟩
            · have h1 := HI.out.2.1; have h2 := HP.out
              rw [h0] at h1; simp at h1; omega
            · exact ⟨U, s, by rw [hU, List.concat_eq_append]⟩
          have hUm : (P ++ U).length = m := by have h1 := HI.out.2.1; simp at h1 ⊢; omega
          have HUm := Lib.hid hUm
          have hT2 : Terms wr g ((P ++ U) ++ s :: x :: (X2 ++ (Y' ++ S))) := by
            have e : (P ++ (U ++ [s])) ++ x :: (X2 ++ (Y' ++ S)) = (P ++ U) ++ s :: x :: (X2 ++ (Y' ++ S)) := by simp
            rw [← e]; exact hT
          have HT := Lib.hid (at_len1 (P ++ U) s x (X2 ++ (Y' ++ S)) m hUm)
          have HS := Lib.hid (at_len (P ++ U) s (x :: (X2 ++ (Y' ++ S))) m hUm)
          have hS := hT2.held HT.out HS.out
          have hMd := hT2.drew
          have hO := HI.out.2.2.2.drew
          clear hUm hT
          have hg : decide ((a : Int) < (m : Int) + 1) = true := by rw [decide_eq_true_eq]; omega
          have hc : (m : Int) + 1 < (n : Int) := by omega
          rw [show ((m + 1 : Nat) : Int) = (m : Int) + 1 from by omega]
          have i0 : (0 : Int) ≤ (m : Int) + 1 := by omega
          have i2 : (0 : Int) ≤ (m : Int) := by omega
          have i3 : (m : Int) < (n : Int) := by omega
          have r1 : IntKind.i64.wrap (m : Int) = (m : Int) := IntWalk.i64_in _ (by omega)
          have r2 : ((m : Int) + 1).toNat = m + 1 := by omega
          have r3 : IntKind.i64.wrap ((m : Int) + 1) = (m : Int) + 1 := IntWalk.i64_in _ (by omega)
          go_wp2_with fail
          go_region_held3 (fun w' => Held12 w' g m x s) (first | exact hS | exact hS1 | go_keep)
             (first
               | (go_at_call 46; ((with_reducible refine (cmp46_any _ _ _ _ _ _ _ _ x.e s.e _).mono ?_); rintro e w1 ⟨rfl, hb1⟩; have hM1 := hMd.below hb1; have hS1 := hM1.held HT.out HS.out; have hO1 := hO.below hb1 (Nat.le_refl _))))
          obtain ⟨c0, c1, c2, c3, c4, c5, d0, d1, d2, d3, d4, d5⟩ := hS1
          by_cases hcmp : cmpE s.e x.e < 0
          · have HN2 := Lib.hid (show X = U ++ (s :: X2) ∧ (P ++ U).length = m ∧ (∀ y ∈ (s :: X2), cmpE y.e x.e < 0) from
              ⟨by rw [HI.out.1]; simp, HUm.out, fun y hy => by
                rcases List.mem_cons.1 hy with rfl | hy
                · exact hcmp
                · exact HI.out.2.2.1 y hy⟩)
            have HW := Lib.hid (hM1.swap HUm.out)
            have HO := Lib.hid ((hO1.set6 (i := (m + 1) * 6) (.bool s.neg) (.slice s.A s.n s.c) (.int .i64 s.e.1) (.int .i64 s.e.2.1) (.int .i64 s.e.2.2.1) (.int .i64 s.e.2.2.2)).set6 (i := m * 6) (.bool x.neg) (.slice x.A x.n x.c) (.int .i64 x.e.1) (.int .i64 x.e.2.1) (.int .i64 x.e.2.2.1) (.int .i64 x.e.2.2.2))
            have f0 := hM1.frozen
            clear hS hMd hO hT2 hM1 hO1 hb1
            go_wp2
            go_region
            go_wp2
            go_roundw
            case rel =>
              exact ⟨m, U, s :: X2, by omega, by omega, rfl, HW.out.drew, Lib.hid ⟨HN2.out.1, HN2.out.2.1, HN2.out.2.2, HO.out.drew⟩⟩
            case measure => simp [intOf]
          · have hXs : (U ++ [s]) ++ x :: X2 = (U ++ [s]) ++ x :: X2 := rfl
            have HN2 := Lib.hid (show ((U ++ [s]) ++ x :: X2).Pairwise Desc from insert_sorted Desc.trans (by rw [← HI.out.1]; exact HX.out.2.2.1)
              (fun y hy => by have h1 := HI.out.2.2.1 y hy; have h2 := cmpE_neg y.e x.e; unfold Desc; omega)
              (fun Y0 s0 h0 => by
                have := List.append_inj_right' h0 rfl
                injection this with this
                subst this
                unfold Desc; omega))
            have HO := Lib.hid hO1
            clear hS hMd hO hT2 hO1 hb1
            go_wp2
            go_roundw
            case rel =>
              refine ⟨k + 1, (U ++ [s]) ++ x :: X2, Y', by omega, by omega, by go_num, ?_, Lib.hid ⟨?_, ?_, HN2.out, HO.out⟩⟩
              · have e : (P ++ U) ++ s :: x :: (X2 ++ (Y' ++ S)) = P ++ ((((U ++ [s]) ++ x :: X2) ++ Y') ++ S) := by simp
                rw [← e]; exact hM1
              · have h1 := HX.out.1; rw [HI.out.1] at h1; simp at h1 ⊢; omega
              · refine List.Perm.trans ?_ HX.out.2.1
                rw [HI.out.1]
                exact perm_insert _ _ _ _
            case measure => simp [intOf]; omega
        · have hja' : j = a := by omega
          subst hja'
          have hX1 : X1 = [] := by
            have h1 := HI.out.2.1; have h2 := HP.out
            simp at h1
            exact List.eq_nil_of_length_eq_zero (by omega)
          subst hX1
          have hg : decide ((j : Int) < (j : Int)) = false := by simp
          have HN2 := Lib.hid (show (([] : List TV) ++ x :: X2).Pairwise Desc from insert_sorted Desc.trans (by rw [← HI.out.1]; exact HX.out.2.2.1)
              (fun y hy => by have h1 := HI.out.2.2.1 y hy; have h2 := cmpE_neg y.e x.e; unfold Desc; omega)
              (fun Y0 s0 h0 => by simp at h0))
          go_wp2
          go_quiet (fail)
          go_wp2
          go_roundw
          case rel =>
            refine ⟨k + 1, x :: X2, Y', by omega, by omega, by go_num, ?_, Lib.hid ⟨?_, ?_, HN2.out, HI.out.2.2.2.drewN _⟩⟩
            · have e : (P ++ ([] : List TV)) ++ x :: (X2 ++ (Y' ++ S)) = P ++ (((x :: X2) ++ Y') ++ S) := by simp
              rw [← e]; exact hT.drewN _
            · have h1 := HX.out.1; rw [HI.out.1] at h1; simp at h1 ⊢; omega
            · refine List.Perm.trans ?_ HX.out.2.1
              rw [HI.out.1]
              exact perm_insert [] _ _ _
          case measure => simp [intOf]; omega
    · have hX : Y = [] := by
        have h1 := HX.out.1; have h2 := HX.out.2.1.length_eq; have h3 := HP.out; have h4 := HM.out
        simp at h2
        exact List.eq_nil_of_length_eq_zero (by omega)
      subst hX
      go_wp2
      go_end0
      refine ⟨rfl, X, by simpa using HX.out.2.1, HX.out.2.2.1, by simpa using hT, HX.out.2.2.2⟩
end Go.Proofs.Ytnknidfpkmnncaa
