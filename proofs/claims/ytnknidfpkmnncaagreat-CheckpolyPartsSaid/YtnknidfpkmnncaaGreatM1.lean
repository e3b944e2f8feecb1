/- N, A0, A1, A2, A3, A4, A5, A6, A7, B1, B2, B3, B4, B5, P, C1, C2. -/
import Derived.Test.YtnknidfpkmnncaaGreatProg
import Derived.Below
import Derived.WalkKit
import Derived.KernelRfl
import Derived.Lib.Hide
import Derived.Deep.QuietTactic
import Derived.BigQuiet
import Derived.Laws.OwnMore
import Derived.Deep.AppendLies
import Derived.Deep.Draws
import Derived.Maps.AppendAt
import Derived.Laws.Rows
import Derived.Deep.DeepCutAuto
import Derived.Deep.CutBlock
import Derived.Deep.RegionHeld3
import Derived.Deep.LoopGhost
import Derived.Laws.BitsAllLaws
import Derived.RegionTactic
import Derived.OwnWalk
import Derived.Laws.MakeOwn
/- Plain laws of numbers written in the base 2^32: the value of a list of digits, the digits of a number. -/
namespace Go.Proofs.YtnknidfpkmnncaaGreat

/-- The digit k, 0 beyond the end. -/
def dg (xs : List Nat) (k : Nat) : Nat := xs.getD k 0
/-- The value of digits in the base 2^32, least significant first. -/
def val : List Nat → Nat
  | [] => 0
  | x :: xs => x + 4294967296 * val xs
/-- The digits of a number, none for 0. -/
def digs (n : Nat) : List Nat := if h : n = 0 then [] else (n % 4294967296) :: digs (n / 4294967296)
termination_by n
decreasing_by exact Nat.div_lt_self (by omega) (by omega)
/-- All digits are below the base. -/
def Lt32 (xs : List Nat) : Prop := ∀ k, dg xs k < 4294967296
/-- The powers of the base. -/
def bp (k : Nat) : Nat := 4294967296 ^ k

theorem bp_zero : bp 0 = 1 := rfl
theorem bp_succ (k : Nat) : bp (k + 1) = 4294967296 * bp k := by unfold bp; rw [Nat.pow_succ, Nat.mul_comm]
theorem bp_pos (k : Nat) : 0 < bp k := Nat.pow_pos (by omega)
theorem bp_add (a b : Nat) : bp (a + b) = bp a * bp b := Nat.pow_add ..
theorem bp_mono {a b : Nat} (h : a ≤ b) : bp a ≤ bp b := Nat.pow_le_pow_right (by omega) h

theorem dg_nil (k : Nat) : dg [] k = 0 := by simp [dg]
theorem dg_zero (x : Nat) (xs : List Nat) : dg (x :: xs) 0 = x := rfl
theorem dg_succ (x : Nat) (xs : List Nat) (k : Nat) : dg (x :: xs) (k + 1) = dg xs k := rfl
theorem dg_beyond (xs : List Nat) (k : Nat) (h : xs.length ≤ k) : dg xs k = 0 := by
  unfold dg; rw [List.getD_eq_getElem?_getD, List.getElem?_eq_none h]; rfl
theorem dg_take (xs : List Nat) (m k : Nat) : dg (xs.take m) k = if k < m then dg xs k else 0 := by
  unfold dg
  simp only [List.getD_eq_getElem?_getD, List.getElem?_take]
  split <;> rfl
theorem dg_drop (xs : List Nat) (m k : Nat) : dg (xs.drop m) k = dg xs (m + k) := by
  unfold dg
  simp only [List.getD_eq_getElem?_getD, List.getElem?_drop]
theorem dg_append (xs ys : List Nat) (k : Nat) : dg (xs ++ ys) k = if k < xs.length then dg xs k else dg ys (k - xs.length) := by
  unfold dg
  simp only [List.getD_eq_getElem?_getD, List.getElem?_append]
  split <;> rfl
theorem dg_set (xs : List Nat) (i v k : Nat) : dg (xs.set i v) k = if k = i ∧ i < xs.length then v else dg xs k := by
  unfold dg
  simp only [List.getD_eq_getElem?_getD, List.getElem?_set]
  by_cases h : i = k
  · subst h
    by_cases hl : i < xs.length
    · simp [hl]
    · simp [hl]
  · rw [if_neg h, if_neg (by omega)]
theorem dg_replicate (n v k : Nat) : dg (List.replicate n v) k = if k < n then v else 0 := by
  unfold dg
  simp only [List.getD_eq_getElem?_getD, List.getElem?_replicate]
  split <;> rfl
theorem dg_ext {xs ys : List Nat} (hl : xs.length = ys.length) (h : ∀ k, k < xs.length → dg xs k = dg ys k) : xs = ys := by
  refine List.ext_getElem hl fun k h1 h2 => ?_
  have := h k h1
  unfold dg at this
  rwa [List.getD_eq_getElem?_getD, List.getD_eq_getElem?_getD, List.getElem?_eq_getElem h1, List.getElem?_eq_getElem h2] at this

theorem Lt32.nil : Lt32 [] := fun k => by rw [dg_nil]; omega
theorem Lt32.tail {x : Nat} {xs : List Nat} (h : Lt32 (x :: xs)) : Lt32 xs := fun k => h (k + 1)
theorem Lt32.head {x : Nat} {xs : List Nat} (h : Lt32 (x :: xs)) : x < 4294967296 := h 0
theorem Lt32.cons {x : Nat} {xs : List Nat} (hx : x < 4294967296) (h : Lt32 xs) : Lt32 (x :: xs) := fun k => by
  cases k with
  | zero => exact hx
  | succ k => exact h k
theorem Lt32.take {xs : List Nat} (h : Lt32 xs) (m : Nat) : Lt32 (xs.take m) := fun k => by
  rw [dg_take]; split; exact h k; omega
theorem Lt32.drop {xs : List Nat} (h : Lt32 xs) (m : Nat) : Lt32 (xs.drop m) := fun k => by
  rw [dg_drop]; exact h _
theorem Lt32.set {xs : List Nat} (h : Lt32 xs) (i : Nat) {v : Nat} (hv : v < 4294967296) : Lt32 (xs.set i v) := fun k => by
  rw [dg_set]; split; exact hv; exact h k
theorem Lt32.append {xs ys : List Nat} (h : Lt32 xs) (h' : Lt32 ys) : Lt32 (xs ++ ys) := fun k => by
  rw [dg_append]; split; exact h k; exact h' _

theorem val_nil : val [] = 0 := rfl
theorem val_cons (x : Nat) (xs : List Nat) : val (x :: xs) = x + 4294967296 * val xs := rfl
theorem val_append (xs ys : List Nat) : val (xs ++ ys) = val xs + bp xs.length * val ys := by
  induction xs with
  | nil => simp [val, bp]
  | cons x xs ih =>
    rw [List.cons_append, val_cons, val_cons, ih, List.length_cons, bp_succ, Nat.mul_add, Nat.mul_assoc, Nat.add_assoc]
theorem val_take_succ (xs : List Nat) (k : Nat) (h : k < xs.length) : val (xs.take (k + 1)) = val (xs.take k) + bp k * dg xs k := by
  have hd : xs.take (k + 1) = xs.take k ++ [dg xs k] := by
    rw [List.take_succ_eq_append_getElem h]
    unfold dg
    rw [List.getD_eq_getElem?_getD, List.getElem?_eq_getElem h]; rfl
  rw [hd, val_append, List.length_take, Nat.min_eq_left (by omega), val_cons, val_nil]; simp
theorem val_take_all (xs : List Nat) (k : Nat) (h : xs.length ≤ k) : val (xs.take k) = val xs := by rw [List.take_of_length_le h]
theorem val_take_drop (xs : List Nat) (k : Nat) (h : k ≤ xs.length) : val xs = val (xs.take k) + bp k * val (xs.drop k) := by
  have := val_append (xs.take k) (xs.drop k)
  rw [List.take_append_drop, List.length_take, Nat.min_eq_left h] at this
  exact this
theorem val_drop (xs : List Nat) (k : Nat) (h : k < xs.length) : val (xs.drop k) = dg xs k + 4294967296 * val (xs.drop (k + 1)) := by
  rw [List.drop_eq_getElem_cons h, val_cons]
  congr 1
  unfold dg
  rw [List.getD_eq_getElem?_getD, List.getElem?_eq_getElem h]; rfl
theorem val_lt {xs : List Nat} (h : Lt32 xs) : val xs < bp xs.length := by
  induction xs with
  | nil => simp [val, bp]
  | cons x xs ih =>
    have h1 := ih h.tail
    have h2 := h.head
    rw [val_cons, List.length_cons, bp_succ]
    omega
theorem val_replicate (n : Nat) : val (List.replicate n 0) = 0 := by
  induction n with
  | zero => rfl
  | succ n ih => rw [List.replicate_succ, val_cons, ih]
theorem val_set (xs : List Nat) (i v : Nat) (h : i < xs.length) : val (xs.set i v) + bp i * dg xs i = val xs + bp i * v := by
  induction xs generalizing i with
  | nil => simp at h
  | cons x xs ih =>
    cases i with
    | zero => simp only [List.set_cons_zero, val_cons, dg_zero, bp_zero]; omega
    | succ i =>
      have := ih i (by simpa using h)
      rw [List.set_cons_succ, val_cons, val_cons, dg_succ, bp_succ, Nat.mul_assoc, Nat.mul_assoc]
      omega

theorem digs_zero : digs 0 = [] := by rw [digs]; simp
theorem digs_pos {n : Nat} (h : n ≠ 0) : digs n = (n % 4294967296) :: digs (n / 4294967296) := by rw [digs]; simp [h]
theorem val_digs (n : Nat) : val (digs n) = n := by
  induction n using Nat.strongRecOn with
  | _ n ih =>
    by_cases h : n = 0
    · subst h; rw [digs_zero]; rfl
    · rw [digs_pos h, val_cons, ih _ (Nat.div_lt_self (by omega) (by omega))]
      omega
theorem digs_lt32 (n : Nat) : Lt32 (digs n) := by
  induction n using Nat.strongRecOn with
  | _ n ih =>
    by_cases h : n = 0
    · subst h; rw [digs_zero]; exact Lt32.nil
    · rw [digs_pos h]
      exact Lt32.cons (Nat.mod_lt _ (by omega)) (ih _ (Nat.div_lt_self (by omega) (by omega)))
theorem digs_eq_nil {n : Nat} : digs n = [] ↔ n = 0 := by
  constructor
  · intro h
    have := val_digs n
    rw [h] at this
    exact this.symm
  · rintro rfl; exact digs_zero
theorem digs_length_le {n L : Nat} (h : n < bp L) : (digs n).length ≤ L := by
  induction L generalizing n with
  | zero =>
    have : n = 0 := by unfold bp at h; omega
    subst this; rw [digs_zero]; exact Nat.le_refl _
  | succ L ih =>
    by_cases h0 : n = 0
    · subst h0; rw [digs_zero]; simp
    · rw [digs_pos h0, List.length_cons]
      have : n / 4294967296 < bp L := by
        rw [bp_succ] at h
        exact Nat.div_lt_of_lt_mul h
      have := ih this
      omega
theorem lt_bp_digs (n : Nat) : n < bp (digs n).length := by
  have := val_lt (digs_lt32 n)
  rwa [val_digs] at this
/-- The last digit of a number is not 0. -/
theorem digs_last {n : Nat} (h : n ≠ 0) : dg (digs n) ((digs n).length - 1) ≠ 0 := by
  induction n using Nat.strongRecOn with
  | _ n ih =>
    rw [digs_pos h, List.length_cons, Nat.add_sub_cancel]
    by_cases h0 : n / 4294967296 = 0
    · rw [h0, digs_zero]
      simp only [List.length_nil, dg_zero]
      omega
    · have h1 := ih _ (Nat.div_lt_self (by omega) (by omega)) h0
      have h2 : (digs (n / 4294967296)).length ≠ 0 := by
        intro h3
        exact h0 (digs_eq_nil.1 (List.eq_nil_of_length_eq_zero h3))
      obtain ⟨m, hm⟩ : ∃ m, (digs (n / 4294967296)).length = m + 1 := ⟨_, (Nat.succ_pred h2).symm⟩
      rw [hm, dg_succ]
      rw [hm] at h1
      exact h1
/-- Digits whose last one is not 0 are the digits of their value. -/
theorem digs_val {xs : List Nat} (h : Lt32 xs) (hl : xs = [] ∨ dg xs (xs.length - 1) ≠ 0) : digs (val xs) = xs := by
  induction xs with
  | nil => exact digs_zero
  | cons x xs ih =>
    have hl' : dg (x :: xs) xs.length ≠ 0 := by
      rcases hl with h0 | h0
      · cases h0
      · simpa using h0
    have hxs : xs = [] ∨ dg xs (xs.length - 1) ≠ 0 := by
      cases xs with
      | nil => exact .inl rfl
      | cons y ys => right; rw [List.length_cons, dg_succ] at hl'; simpa using hl'
    have hne : val (x :: xs) ≠ 0 := by
      intro h0
      rw [val_cons] at h0
      cases xs with
      | nil => simp [dg] at hl'; omega
      | cons y ys =>
        have h3 : val (y :: ys) = 0 := by omega
        have := ih h.tail hxs
        rw [h3, digs_zero] at this
        cases this
    rw [digs_pos hne, val_cons]
    have h1 := h.head
    rw [show (x + 4294967296 * val xs) % 4294967296 = x by omega, show (x + 4294967296 * val xs) / 4294967296 = val xs by omega, ih h.tail hxs]

def trimLen : List Nat → Nat → Nat
  | _, 0 => 0
  | xs, n + 1 => if dg xs n = 0 then trimLen xs n else n + 1
theorem trimLen_le (xs : List Nat) (n : Nat) : trimLen xs n ≤ n := by
  induction n with
  | zero => simp [trimLen]
  | succ n ih => unfold trimLen; split <;> omega
theorem trimLen_last (xs : List Nat) (n : Nat) : trimLen xs n = 0 ∨ dg xs (trimLen xs n - 1) ≠ 0 := by
  induction n with
  | zero => exact .inl rfl
  | succ n ih =>
    unfold trimLen
    split
    · exact ih
    · right; simpa
theorem trimLen_val (xs : List Nat) (n : Nat) (h : n ≤ xs.length) : val (xs.take (trimLen xs n)) = val (xs.take n) := by
  induction n with
  | zero => rfl
  | succ n ih =>
    unfold trimLen
    split
    · rename_i h0
      rw [ih (by omega), val_take_succ xs n (by omega), h0]; simp
    · rfl
/-- The digits without leading zero digits are the digits of the value. -/
theorem take_trimLen {xs : List Nat} (h : Lt32 xs) : xs.take (trimLen xs xs.length) = digs (val xs) := by
  have h1 := trimLen_val xs xs.length (Nat.le_refl _)
  rw [List.take_length] at h1
  have h2 := digs_val (h.take (trimLen xs xs.length)) (by
    have hle := trimLen_le xs xs.length
    by_cases h0 : trimLen xs xs.length = 0
    · left; rw [h0]; rfl
    · right
      rcases trimLen_last xs xs.length with h3 | h3
      · exact absurd h3 h0
      · rw [List.length_take, Nat.min_eq_left hle, dg_take, if_pos (by omega)]
        exact h3)
  rw [← h2, h1]
theorem val_zero_iff {xs : List Nat} (h : Lt32 xs) : val xs = 0 ↔ trimLen xs xs.length = 0 := by
  have h1 := take_trimLen h
  constructor
  · intro h0
    rw [h0, digs_zero] at h1
    have h2 := congrArg List.length h1
    rw [List.length_take, Nat.min_eq_left (trimLen_le _ _)] at h2
    exact h2
  · intro h0
    rw [h0] at h1
    exact digs_eq_nil.1 h1.symm
theorem digs_inj {a b : Nat} (h : digs a = digs b) : a = b := by rw [← val_digs a, ← val_digs b, h]
theorem lt_of_length_lt {a b : Nat} (h : (digs a).length < (digs b).length) : a < b := by
  rcases Nat.lt_or_ge a b with h1 | h1
  · exact h1
  · exfalso
    have h2 : (digs b).length ≤ (digs a).length := digs_length_le (Nat.lt_of_le_of_lt h1 (lt_bp_digs a))
    omega
theorem digs_length_mono {a b : Nat} (h : a ≤ b) : (digs a).length ≤ (digs b).length := digs_length_le (Nat.lt_of_le_of_lt h (lt_bp_digs b))

/-- -1, 0 or 1. -/
def cmpN (a b : Nat) : Int := if a < b then -1 else if a = b then 0 else 1
theorem cmpN_lt {a b : Nat} (h : a < b) : cmpN a b = -1 := if_pos h
theorem cmpN_eq (a : Nat) : cmpN a a = 0 := by unfold cmpN; simp
theorem cmpN_gt {a b : Nat} (h : b < a) : cmpN a b = 1 := by unfold cmpN; rw [if_neg (by omega), if_neg (by omega)]
theorem val_gt {xs ys : List Nat} (k : Nat) (hx : k < xs.length) (hy : k < ys.length) (_hx32 : Lt32 xs) (hy32 : Lt32 ys)
    (heq : val (xs.drop (k + 1)) = val (ys.drop (k + 1))) (hgt : dg ys k < dg xs k) : val ys < val xs := by
  have h1 := val_take_drop xs k (by omega)
  have h2 := val_take_drop ys k (by omega)
  rw [val_drop xs k hx] at h1
  rw [val_drop ys k hy, ← heq] at h2
  have h3 := val_lt (hy32.take k)
  rw [List.length_take, Nat.min_eq_left (by omega)] at h3
  have h4 : bp k * (dg ys k + 4294967296 * val (xs.drop (k + 1)) + 1) ≤ bp k * (dg xs k + 4294967296 * val (xs.drop (k + 1))) := Nat.mul_le_mul_left _ (by omega)
  rw [Nat.mul_add, Nat.mul_one] at h4
  omega
theorem val_drop_eq {xs ys : List Nat} (k : Nat) (hx : k < xs.length) (hy : k < ys.length)
    (heq : val (xs.drop (k + 1)) = val (ys.drop (k + 1))) (he : dg xs k = dg ys k) : val (xs.drop k) = val (ys.drop k) := by
  rw [val_drop xs k hx, val_drop ys k hy, heq, he]

theorem take_set_of_le (zs : List Nat) (k s m : Nat) (h : m ≤ k) : (zs.set k s).take m = zs.take m := by
  rw [List.take_set, List.set_eq_of_length_le (by rw [List.length_take]; omega)]
/-- One more digit of a sum. -/
theorem add_round {zs xs ys : List Nat} {k c : Nat} (hz : k < zs.length) (hx : k < xs.length) (hy : k < ys.length)
    (h : val (zs.take k) + bp k * c = val (xs.take k) + val (ys.take k)) :
    val ((zs.set k ((dg xs k + dg ys k + c) % 4294967296)).take (k + 1)) + bp (k + 1) * ((dg xs k + dg ys k + c) / 4294967296) = val (xs.take (k + 1)) + val (ys.take (k + 1)) := by
  rw [val_take_succ _ k (by simpa using hz), val_take_succ xs k hx, val_take_succ ys k hy, take_set_of_le _ _ _ _ (Nat.le_refl _), dg_set, if_pos ⟨rfl, hz⟩, bp_succ]
  have e := Nat.div_add_mod (dg xs k + dg ys k + c) 4294967296
  generalize (dg xs k + dg ys k + c) % 4294967296 = s at *
  generalize (dg xs k + dg ys k + c) / 4294967296 = d at *
  have e2 : bp k * (4294967296 * d + s) = bp k * (dg xs k + dg ys k + c) := by rw [e]
  simp only [Nat.mul_add] at e2
  rw [Nat.mul_comm 4294967296 (bp k), Nat.mul_assoc]
  omega
theorem add_round2 {zs xs : List Nat} {k c q : Nat} (hz : k < zs.length) (hx : k < xs.length)
    (h : val (zs.take k) + bp k * c = val (xs.take k) + q) :
    val ((zs.set k ((dg xs k + 0 + c) % 4294967296)).take (k + 1)) + bp (k + 1) * ((dg xs k + 0 + c) / 4294967296) = val (xs.take (k + 1)) + q := by
  rw [val_take_succ _ k (by simpa using hz), val_take_succ xs k hx, take_set_of_le _ _ _ _ (Nat.le_refl _), dg_set, if_pos ⟨rfl, hz⟩, bp_succ]
  have e := Nat.div_add_mod (dg xs k + 0 + c) 4294967296
  generalize (dg xs k + 0 + c) % 4294967296 = s at *
  generalize (dg xs k + 0 + c) / 4294967296 = d at *
  have e2 : bp k * (4294967296 * d + s) = bp k * (dg xs k + 0 + c) := by rw [e]
  simp only [Nat.mul_add] at e2
  rw [Nat.mul_comm 4294967296 (bp k), Nat.mul_assoc]
  omega
theorem add_last {zs : List Nat} {n c : Nat} (hz : zs.length = n + 1) : val (zs.set n c) = val (zs.take n) + bp n * c := by
  have h1 : (zs.set n c).take (n + 1) = zs.set n c := List.take_of_length_le (by simp [hz])
  rw [← h1, val_take_succ _ n (by simp [hz]), take_set_of_le _ _ _ _ (Nat.le_refl _), dg_set, if_pos ⟨rfl, by omega⟩]
theorem lt32_replicate (n : Nat) : Lt32 (List.replicate n 0) := fun k => by rw [dg_replicate]; split <;> omega

theorem val_take_succ_any (xs : List Nat) (k : Nat) : val (xs.take (k + 1)) = val (xs.take k) + bp k * dg xs k := by
  rcases Nat.lt_or_ge k xs.length with h | h
  · exact val_take_succ xs k h
  · rw [val_take_all xs k h, val_take_all xs (k + 1) (by omega), dg_beyond xs k h]; simp
def borrow (x y b : Nat) : Nat := if x < y + b then 1 else 0
theorem borrow_le (x y b : Nat) : borrow x y b ≤ 1 := by unfold borrow; split <;> omega
theorem borrow_eq {x y b : Nat} (hx : x < 4294967296) (hy : y < 4294967296) (hb : b ≤ 1) : (x + 8589934592 - y - b) % 4294967296 + y + b = x + 4294967296 * borrow x y b := by
  unfold borrow; split <;> omega
/-- One more digit of a difference. -/
theorem sub_round {zs xs ys : List Nat} {k b : Nat} (hz : k < zs.length) (hx : dg xs k < 4294967296) (hy : dg ys k < 4294967296) (hb : b ≤ 1)
    (h : val (zs.take k) + val (ys.take k) = val (xs.take k) + bp k * b) (_hle : bp k * b ≤ bp k) :
    val ((zs.set k ((dg xs k + 8589934592 - dg ys k - b) % 4294967296)).take (k + 1)) + val (ys.take (k + 1)) = val (xs.take (k + 1)) + bp (k + 1) * borrow (dg xs k) (dg ys k) b := by
  rw [val_take_succ _ k (by simpa using hz), val_take_succ_any xs k, val_take_succ_any ys k, take_set_of_le _ _ _ _ (Nat.le_refl _), dg_set, if_pos ⟨rfl, hz⟩, bp_succ]
  have e := borrow_eq hx hy hb
  generalize (dg xs k + 8589934592 - dg ys k - b) % 4294967296 = s at *
  generalize borrow (dg xs k) (dg ys k) b = d at *
  have e2 : bp k * (s + dg ys k + b) = bp k * (dg xs k + 4294967296 * d) := by rw [e]
  simp only [Nat.mul_add] at e2
  rw [Nat.mul_comm 4294967296 (bp k), Nat.mul_assoc]
  omega
theorem sub_last {zs : List Nat} {n b p q : Nat} (hz : zs.length = n) (hl : Lt32 zs) (hb : b ≤ 1) (hle : q ≤ p) (h : val zs + q = p + bp n * b) : val zs = p - q := by
  have h1 := val_lt hl
  rw [hz] at h1
  rcases Nat.eq_zero_or_pos b with h0 | h0
  · subst h0; simp at h; omega
  · have : b = 1 := by omega
    subst this
    simp at h
    omega

/-- One digit of a product: x * y + d + c. -/
theorem mul_digits (x y d c : Nat) (hx : x < 4294967296) (hy : y < 4294967296) (hd : d < 4294967296) (hc : c < 4294967296) :
    ∃ hi lo s1 c1 s2 c2 : Nat, (x * y / 4294967296 = hi ∧ x * y % 4294967296 = lo ∧ (lo + d + 0) % 4294967296 = s1 ∧ (lo + d + 0) / 4294967296 = c1 ∧ (s1 + c + 0) % 4294967296 = s2 ∧ (s1 + c + 0) / 4294967296 = c2) ∧
      lo < 4294967296 ∧ s1 < 4294967296 ∧ s2 < 4294967296 ∧ c1 ≤ 1 ∧ c2 ≤ 1 ∧ hi + c1 + c2 < 4294967296 ∧ s2 + 4294967296 * (hi + c1 + c2) = x * y + d + c := by
  refine ⟨_, _, _, _, _, _, ⟨rfl, rfl, rfl, rfl, rfl, rfl⟩, ?_⟩
  have hxy : x * y ≤ 4294967295 * 4294967295 := Nat.mul_le_mul (by omega) (by omega)
  generalize x * y = m at *
  omega
/-- One round of a product's inner loop. -/
theorem mul_round {zs ys : List Nat} {i k x c s2 c' V : Nat} (hz : i + k < zs.length)
    (h : val zs + bp (i + k) * c = V + bp i * (x * val (ys.take k)))
    (e : s2 + 4294967296 * c' = x * dg ys k + dg zs (i + k) + c) :
    val (zs.set (i + k) s2) + bp (i + (k + 1)) * c' = V + bp i * (x * val (ys.take (k + 1))) := by
  have h1 := val_set zs (i + k) s2 hz
  rw [val_take_succ_any ys k, show i + (k + 1) = (i + k) + 1 by omega, bp_succ]
  have e2 : bp (i + k) * (s2 + 4294967296 * c') = bp (i + k) * (x * dg ys k + dg zs (i + k) + c) := by rw [e]
  simp only [Nat.mul_add] at e2 ⊢
  have e3 : bp i * (x * (bp k * dg ys k)) = bp (i + k) * (x * dg ys k) := by
    rw [bp_add]
    rw [Nat.mul_left_comm x (bp k), ← Nat.mul_assoc]
  rw [e3, Nat.mul_comm 4294967296 (bp (i + k)), Nat.mul_assoc]
  omega
end Go.Proofs.YtnknidfpkmnncaaGreat
/- Words for memory: a slice that reads as a list of cells, old or in a block of its element type; what keeps it. -/
namespace Go.Proofs.YtnknidfpkmnncaaGreat
open Go.RowKit

theorem block_of_add (a : Addr) (n : Nat) : (a.add n).block = a.block := by unfold Addr.add; split <;> rfl
theorem add_of_add (a : Addr) (i j : Nat) : (a.add i).add j = a.add (i + j) := by
  unfold Addr.add
  by_cases hi : i = 0 <;> by_cases hj : j = 0 <;> simp [hi, hj, Nat.add_assoc]
theorem add_zero (a : Addr) : a.add 0 = a := by unfold Addr.add; simp

/-- The slice value .slice A n c of elements of type T and of z cells reads as the cells cs; its row is older than block B, or a block of elements of type T. -/
structure Row (B : Nat) (T : TypeId) (w : World) (A : Option Addr) (n c z : Nat) (cs : List Value) : Prop where
  len : cs.length = n * z
  cap : n ≤ c
  bd : c ≤ 9223372036854775807
  cell : 0 < n → ∃ ad, A = some ad ∧ (ad.block < B ∨ ∃ cur, w.heap[ad.block]? = some (.cells cur T (0, 0))) ∧ ∀ k u, cs[k]? = some u → w.cell? (ad.add k) = some u

section
variable {B T : Nat} {w w' : World} {A : Option Addr} {n c z : Nat} {cs : List Value}
theorem Row.nil : Row B T w none 0 0 z [] := ⟨by simp, Nat.le_refl _, by omega, fun h => absurd h (by omega)⟩
theorem Row.keep (h : Row B T w A n c z cs) (hk : ∀ ad, A = some ad → 0 < n → (ad.block < w.heap.size) → (ad.block < B ∨ ∃ cur, w.heap[ad.block]? = some (.cells cur T (0, 0))) → w'.heap[ad.block]? = w.heap[ad.block]?) (hz : 0 < z) : Row B T w' A n c z cs :=
  ⟨h.len, h.cap, h.bd, fun hn => by
    obtain ⟨ad, e, ht, hc⟩ := h.cell hn
    have hl : 0 < cs.length := by rw [h.len]; exact Nat.mul_pos hn hz
    have h0 := hc 0 _ (List.getElem?_eq_getElem hl)
    have hlt := World.block_lt_of_cell? w _ h0
    rw [block_of_add] at hlt
    have hb := hk ad e hn hlt ht
    refine ⟨ad, e, ?_, fun k u hu => ?_⟩
    · rcases ht with ht | ⟨cur, ht⟩
      · exact .inl ht
      · exact .inr ⟨cur, hb.trans ht⟩
    · rw [← hc k u hu]
      exact World.cell?_of_block (by rw [block_of_add]; exact hb)⟩
theorem Row.below (h : Row B T w A n c z cs) (hz : 0 < z) {B' : Nat} (hb : Below B' w w') (hB : w.heap.size ≤ B') : Row B T w' A n c z cs :=
  h.keep (fun ad _ _ hlt _ => hb.block _ (by omega)) hz
/-- Another row's block is written, of another element type. -/
theorem Row.other (h : Row B T w A n c z cs) (hz : 0 < z) {g : Nat} {T' : TypeId} {cur : Array Value} {fr : Nat × Nat} (hg : w.grownBy w' (some g)) (hB : B ≤ g) (ht : w.heap[g]? = some (.cells cur T' fr)) (hne : T ≠ T') : Row B T w' A n c z cs :=
  h.keep (fun ad _ _ hlt hty => hg.block _ hlt (by
    intro he
    injection he with he
    rcases hty with hty | ⟨cur', hty⟩
    · omega
    · rw [he, ht] at hty
      injection hty with hty
      injection hty with _ h2
      exact hne h2.symm)) hz
theorem Row.take (h : Row B T w A n c z cs) {m : Nat} (hm : m ≤ n) : Row B T w A m c z (cs.take (m * z)) :=
  ⟨by rw [List.length_take, h.len]; exact Nat.min_eq_left (Nat.mul_le_mul_right _ hm), Nat.le_trans hm h.cap, h.bd, fun hn => by
    obtain ⟨ad, e, ht, hc⟩ := h.cell (by omega)
    refine ⟨ad, e, ht, fun k u hu => hc k u ?_⟩
    rw [List.getElem?_take] at hu
    split at hu
    · exact hu
    · cases hu⟩
theorem Row.cut (h : Row B T w A n c z cs) {k : Nat} (hk : k ≤ n) :
    Row B T w (if c = k then A else A.map (·.add (k * z))) (n - k) (c - k) z (cs.drop (k * z)) := by
  refine ⟨by rw [List.length_drop, h.len, Nat.sub_mul], by have := h.cap; omega, by have := h.bd; omega, fun hn => ?_⟩
  have hcap := h.cap
  obtain ⟨ad, rfl, ht, hcell⟩ := h.cell (by omega)
  rw [if_neg (by omega)]
  refine ⟨ad.add (k * z), rfl, by rw [block_of_add]; exact ht, fun j u hu => ?_⟩
  rw [add_of_add]
  exact hcell _ u (by rw [← hu, List.getElem?_drop])
theorem Row.of_own {base : Nat} (h : w.ownsRow base T z (.slice A n c) n cs) : Row B T w A n c z cs := by
  have hcap : n ≤ c ∧ c ≤ 9223372036854775807 := by
    rcases h.2 with ⟨he, h0⟩ | ⟨g, cap, cur, he, _, _, h1, h2, _⟩
    · injection he with _ h1 h2; omega
    · injection he with _ h3 h4; simp only [maxLen] at h2; omega
  refine ⟨h.1, hcap.1, hcap.2, fun hn => ?_⟩
  rcases h.2 with ⟨_, h0⟩ | ⟨g, cap, cur, he, _, hh, _⟩
  · omega
  · injection he with hA _ _
    subst hA
    exact ⟨_, rfl, .inr ⟨cur, hh⟩, h.cells (g := g) rfl⟩
/-- The cell k. -/
theorem Row.at_ (h : Row B T w A n c z cs) {k : Nat} {u : Value} (hn : 0 < n) (hu : cs[k]? = some u) : ∃ ad, A = some ad ∧ w.cell? (ad.add k) = some u := by
  obtain ⟨ad, e, _, hc⟩ := h.cell hn
  exact ⟨ad, e, hc k u hu⟩
end

/-- Block g has elements of type T. -/
def Ty (w : World) (g : Nat) (T : TypeId) : Prop := ∃ cur fr, w.heap[g]? = some (.cells cur T fr)
theorem Ty.lt {w : World} {g : Nat} {T : TypeId} (h : Ty w g T) : g < w.heap.size := by
  obtain ⟨cur, fr, h⟩ := h
  rcases Nat.lt_or_ge g w.heap.size with hlt | hge
  · exact hlt
  · rw [Array.getElem?_eq_none hge] at h; cases h
theorem Ty.new (w : World) (cur : Array Value) (T : TypeId) (fr : Nat × Nat) : Ty (w.alloc (.cells cur T fr)) w.heap.size T := ⟨cur, fr, heap_alloc_new w _⟩
theorem Ty.alloc {w : World} {g : Nat} {T : TypeId} (h : Ty w g T) (o : Obj) : Ty (w.alloc o) g T := by
  have hl := h.lt
  obtain ⟨cur, fr, h⟩ := h
  exact ⟨cur, fr, (Below.heap_alloc w o g hl).trans h⟩
theorem Ty.below {w w' : World} {g : Nat} {T : TypeId} (h : Ty w g T) {B : Nat} (hb : Below B w w') (hg : w.heap.size ≤ B) : Ty w' g T := by
  have hl := h.lt
  obtain ⟨cur, fr, h⟩ := h
  exact ⟨cur, fr, (hb.block g (by omega)).trans h⟩
theorem Ty.setCell {w : World} {g : Nat} {T : TypeId} (h : Ty w g T) (p : Addr) (u : Value) : Ty (w.setCell p u) g T := by
  obtain ⟨cur, fr, h⟩ := h
  by_cases hp : g = p.block
  · subst hp
    exact ⟨if p.spot.isSome then cur else cur.setIfInBounds p.off u, fr, by simp [World.setCell, Array.getElem?_modify, h]⟩
  · exact ⟨cur, fr, (Below.heap_setCell w p u g hp).trans h⟩
theorem Ty.drewN {w : World} {g : Nat} {T : TypeId} (h : Ty w g T) (n : Nat) : Ty (w.drewN n) g T := h
theorem Ty.drew {w : World} {g : Nat} {T : TypeId} (h : Ty w g T) : Ty w.drew g T := h
theorem Row.setCell {B T : Nat} {w : World} {A : Option Addr} {n c z : Nat} {cs : List Value} (h : Row B T w A n c z cs) (hz : 0 < z) {p : Addr} (hB : B ≤ p.block) {T' : TypeId} (ht : Ty w p.block T') (hne : T ≠ T') (u : Value) : Row B T (w.setCell p u) A n c z cs := by
  obtain ⟨cur, fr, ht⟩ := ht
  refine h.keep (fun ad _ _ hlt hty => Below.heap_setCell w p u _ ?_) hz
  rintro he
  rcases hty with hty | ⟨cur', hty⟩
  · omega
  · rw [he, ht] at hty
    injection hty with hty
    injection hty with _ h2
    exact hne h2.symm

/-- Only orders have been drawn. -/
def Drawn (w w' : World) : Prop := ∃ n, w' = w.drewN n
theorem Drawn.refl (w : World) : Drawn w w := ⟨0, rfl⟩
theorem Drawn.drewN {w w' : World} (h : Drawn w w') (n : Nat) : Drawn w (w'.drewN n) := by
  obtain ⟨m, rfl⟩ := h
  exact ⟨m + n, World.drewN_drewN ..⟩
theorem Drawn.drew {w w' : World} (h : Drawn w w') : Drawn w w'.drew := by
  have := h.drewN 1
  exact this
theorem Drawn.trans {w w1 w2 : World} (h : Drawn w w1) (k : Drawn w1 w2) : Drawn w w2 := by
  obtain ⟨m, rfl⟩ := k
  exact h.drewN m
theorem Drawn.below {w w' : World} (h : Drawn w w') (B : Nat) : Below B w w' := by
  obtain ⟨m, rfl⟩ := h
  exact ⟨rfl, rfl, rfl, Nat.le_refl _, fun _ _ => rfl⟩

/-- What comes back is v; only orders have been drawn. -/
def ValQ (v : Value) (w : World) (e : Ending) (w' : World) : Prop := e = .returned v ∧ Drawn w w'
theorem ValQ.mk {v v' : Value} {w w' : World} (h : v = v') (hw : Drawn w w') : ValQ v' w (.returned v) w' := ⟨by rw [h], hw⟩

/-! Digits. -/
def digCells (xs : List Nat) : List Value := xs.map fun (x : Nat) => Value.int .u32 (x : Int)
theorem digCells_at {xs : List Nat} {k : Nat} (h : k < xs.length) : (digCells xs)[k]? = some (.int .u32 ((dg xs k : Nat) : Int)) := by
  unfold digCells dg
  rw [List.getElem?_map, List.getElem?_eq_getElem h, List.getD_eq_getElem?_getD, List.getElem?_eq_getElem h]
  rfl
theorem digCells_take (xs : List Nat) (m : Nat) : (digCells xs).take m = digCells (xs.take m) := by unfold digCells; rw [List.map_take]
theorem digCells_drop (xs : List Nat) (m : Nat) : (digCells xs).drop m = digCells (xs.drop m) := by unfold digCells; rw [List.map_drop]
theorem digCells_length (xs : List Nat) : (digCells xs).length = xs.length := by simp [digCells]
theorem digCells_append (xs ys : List Nat) : digCells (xs ++ ys) = digCells xs ++ digCells ys := by simp [digCells]
theorem digCells_one (xs : List Nat) : ∀ u ∈ digCells xs, u.oneCell' = true := by
  intro u hu
  obtain ⟨x, _, rfl⟩ := List.mem_map.1 hu
  rfl

/-- The slice value .slice A n c reads as the 32-bit digits xs. -/
structure Dig (B : Nat) (w : World) (A : Option Addr) (n c : Nat) (xs : List Nat) : Prop where
  row : Row B 83 w A n c 1 (digCells xs)
  dig : Lt32 xs
section
variable {B : Nat} {w w' : World} {A : Option Addr} {n c : Nat} {xs : List Nat}
theorem Dig.len (h : Dig B w A n c xs) : xs.length = n := by have := h.row.len; rw [digCells_length] at this; omega
theorem Dig.cap (h : Dig B w A n c xs) : n ≤ c := h.row.cap
theorem Dig.bd (h : Dig B w A n c xs) : c ≤ 9223372036854775807 := h.row.bd
theorem Dig.cell (h : Dig B w A n c xs) (k : Nat) (hk : k < n) : ∃ ad, A = some ad ∧ w.cell? (ad.add k) = some (.int .u32 ((dg xs k : Nat) : Int)) :=
  h.row.at_ (by omega) (digCells_at (by rw [h.len]; exact hk))
theorem Dig.nil : Dig B w none 0 0 [] := ⟨Row.nil, Lt32.nil⟩
theorem Dig.below (h : Dig B w A n c xs) {B' : Nat} (hb : Below B' w w') (hB : w.heap.size ≤ B') : Dig B w' A n c xs := ⟨h.row.below (by omega) hb hB, h.dig⟩
theorem Dig.take (h : Dig B w A n c xs) {m : Nat} (hm : m ≤ n) : Dig B w A m c (xs.take m) := by
  refine ⟨?_, h.dig.take m⟩
  have := h.row.take hm
  rwa [Nat.mul_one, digCells_take] at this
theorem Dig.of_own {base : Nat} (h : w.ownsRow base 83 1 (.slice A n c) n (digCells xs)) (hd : Lt32 xs) : Dig B w A n c xs := ⟨Row.of_own h, hd⟩
theorem Dig.other (h : Dig B w A n c xs) {g : Nat} {T' : TypeId} {cur : Array Value} {fr : Nat × Nat} (hg : w.grownBy w' (some g)) (hB : B ≤ g) (ht : w.heap[g]? = some (.cells cur T' fr)) (hne : 83 ≠ T') : Dig B w' A n c xs :=
  ⟨h.row.other (by omega) hg hB ht hne, h.dig⟩
theorem Dig.drew (h : Dig B w A n c xs) : Dig B w.drew A n c xs := h.below (((Below.refl w.heap.size w)).drew) (Nat.le_refl _)
theorem Dig.setCell (h : Dig B w A n c xs) {p : Addr} (hB : B ≤ p.block) {T' : TypeId} (ht : Ty w p.block T') (hne : 83 ≠ T') (u : Value) : Dig B (w.setCell p u) A n c xs :=
  ⟨h.row.setCell (by omega) hB ht hne u, h.dig⟩
end
end Go.Proofs.YtnknidfpkmnncaaGreat
/- natural.trim cuts leading zero digits off. -/
namespace Go.Proofs.YtnknidfpkmnncaaGreat
open Go.RowKit

/-- What comes back reads as the digits of m; the world is as it was. -/
def NatQ (B m : Nat) (w : World) (e : Ending) (w' : World) : Prop :=
  ∃ A' n' c', e = .returned (.slice A' n' c') ∧ Dig B w A' n' c' (digs m) ∧ w = w'
/-- What comes back reads as the digits of m; what existed is as it was. -/
def NatP (B m : Nat) (w : World) (e : Ending) (w' : World) : Prop :=
  ∃ A' n' c', e = .returned (.slice A' n' c') ∧ Dig B w' A' n' c' (digs m) ∧ Below w.heap.size w w'

theorem NatQ.mk {B : Nat} {A : Option Addr} {n c : Nat} {xs : List Nat} {w : World} (h : Dig B w A n c xs) {m : Nat} (hm : trimLen xs n = m) : NatQ B (val xs) w (.returned (.slice A m c)) w :=
  ⟨A, m, c, rfl, by
    rw [← take_trimLen h.dig, h.len, hm]; exact h.take (by rw [← hm]; exact trimLen_le _ _), rfl⟩
theorem NatQ.nil {B : Nat} {A : Option Addr} {n c : Nat} {xs : List Nat} {w : World} (h : Dig B w A n c xs) (hm : trimLen xs n = 0) : NatQ B (val xs) w (.returned (.slice none 0 0)) w :=
  ⟨none, 0, 0, rfl, by rw [← take_trimLen h.dig, h.len, hm]; exact Dig.nil, rfl⟩

set_option maxHeartbeats 400000 in
theorem trim_any (B : Nat) (A : Option Addr) (n c : Nat) (xs : List Nat) (w : World) (h : Dig B w A n c xs) :
    Calls Tryz.prog 82 #[.slice A n c] w (NatQ B (val xs) w) := by
  have hcap := h.cap
  have hbd := h.bd
  go_enter Tryz.func82, Tryz.ntmps82
  go_wp2
  go_loop [3] (fun i => ∃ k : Nat, k ≤ n ∧ i = .int .i64 k ∧ Hid (trimLen xs n = trimLen xs k)) (fun i => (intOf i).toNat)
  case atStart => exact ⟨n, Nat.le_refl _, rfl, Lib.hid rfl⟩
  case round =>
    obtain ⟨k, hk, rfl, H⟩ := hrel
    rcases k with _ | k
    · go_wp2
      go_ret
      exact NatQ.nil h H.out
    · obtain ⟨ad, rfl, hc⟩ := h.cell k (by omega)
      by_cases hz : dg xs k = 0
      · have H2 : Hid (trimLen xs n = trimLen xs k) := by
          have h1 := H.out
          rw [trimLen, if_pos hz] at h1
          exact h1
        rw [hz] at hc
        clear hz H
        go_wp2
        go_round
        case rel => exact ⟨k, by omega, by go_num, H2⟩
        case measure => simp [intOf]
      · have H2 : Hid (trimLen xs n = k + 1) := by
          have h1 := H.out
          rw [trimLen, if_neg hz] at h1
          exact h1
        have hz' : (((dg xs k : Nat) : Int) == 0) = false := by rw [beq_eq_false_iff_ne]; omega
        clear H hz
        go_wp2
        go_ret
        exact NatQ.mk h H2.out
end Go.Proofs.YtnknidfpkmnncaaGreat
/- math/bits: Add32, Mul32, Sub32. -/
namespace Go.Proofs.YtnknidfpkmnncaaGreat
open Go.RowKit

theorem ret2_int {k k' : IntKind} {a a' b b' : Int} (h : a = a') (h' : b = b') : Ending.returned (.tuple #[.int k a, .int k' b]) = .returned (.tuple #[.int k a', .int k' b']) := by rw [h, h']

theorem add32_any (x y c : Nat) (w : World) (hx : x < 4294967296) (hy : y < 4294967296) (hc : c ≤ 1) :
    Calls Tryz.prog 84 #[.int .u32 x, .int .u32 y, .int .u32 c] w fun e w' =>
      e = .returned (.tuple #[.int .u32 ((x + y + c) % 4294967296 : Nat), .int .u32 ((x + y + c) / 4294967296 : Nat)]) ∧ w = w' := by
  go_enter Tryz.func84, Tryz.ntmps84
  go_wp2
  go_ret2
  exact ⟨ret2_int (by omega) (by omega), rfl⟩
theorem mul32_any (x y : Nat) (w : World) (hx : x < 4294967296) (hy : y < 4294967296) :
    Calls Tryz.prog 86 #[.int .u32 x, .int .u32 y] w fun e w' =>
      e = .returned (.tuple #[.int .u32 (x * y / 4294967296 : Nat), .int .u32 (x * y % 4294967296 : Nat)]) ∧ w = w' := by
  have hxy : x * y ≤ 4294967295 * 4294967295 := Nat.mul_le_mul (by omega) (by omega)
  have h1 : (x : Int) * (y : Int) = ((x * y : Nat) : Int) := by rw [Int.natCast_mul]
  have H1 := Lib.hid h1
  clear h1
  go_enter Tryz.func86, Tryz.ntmps86
  go_wp2
  go_ret2
  have h1 := H1.out
  exact ⟨ret2_int (by show (x : Int) * (y : Int) / 4294967296 = _; rw [h1]; omega) (by show (x : Int) * (y : Int) % 4294967296 = _; rw [h1]; omega), rfl⟩

theorem and_one {a b : Nat} (ha : a < 2) (hb : b < 2) : a &&& b = a * b := by
  match a, b, ha, hb with
  | 0, 0, _, _ => rfl
  | 0, 1, _, _ => rfl
  | 1, 0, _, _ => rfl
  | 1, 1, _, _ => rfl
theorem or_one {a b : Nat} (ha : a < 2) (hb : b < 2) : a ||| b = a + b - a * b := by
  match a, b, ha, hb with
  | 0, 0, _, _ => rfl
  | 0, 1, _, _ => rfl
  | 1, 0, _, _ => rfl
  | 1, 1, _, _ => rfl
theorem xor_one {a b : Nat} (ha : a < 2) (hb : b < 2) : a ^^^ b = a + b - 2 * (a * b) := by
  match a, b, ha, hb with
  | 0, 0, _, _ => rfl
  | 0, 1, _, _ => rfl
  | 1, 0, _, _ => rfl
  | 1, 1, _, _ => rfl
theorem top_lt {a : Nat} (ha : a < 4294967296) : a / 2 ^ 31 < 2 := by omega
theorem borrow_bits (x y b d : Nat) (hx : x < 4294967296) (hy : y < 4294967296) (hb : b ≤ 1) (hd : d = (x + 8589934592 - y - b) % 4294967296) :
    ((((4294967295 ^^^ x) &&& y) ||| ((4294967295 ^^^ (x ^^^ y)) &&& d)) / 2147483648) = borrow x y b := by
  have hd' : d < 4294967296 := by omega
  rw [show (2147483648 : Nat) = 2 ^ 31 from rfl, Nat.or_div_two_pow, Nat.and_div_two_pow, Nat.and_div_two_pow, Nat.xor_div_two_pow, Nat.xor_div_two_pow, Nat.xor_div_two_pow]
  have e : (4294967295 : Nat) / 2 ^ 31 = 1 := rfl
  rw [e]
  have t1 := top_lt hx
  have t2 := top_lt hy
  have t3 := top_lt hd'
  unfold borrow
  generalize hX : x / 2 ^ 31 = X at *
  generalize hY : y / 2 ^ 31 = Y at *
  generalize hD : d / 2 ^ 31 = D at *
  have hX' : x / 2147483648 = X := hX
  have hY' : y / 2147483648 = Y := hY
  have hD' : d / 2147483648 = D := hD
  clear hX hY hD e
  match X, Y, D, t1, t2, t3 with
  | 0, 0, 0, _, _, _ => show 0 = _; split <;> omega
  | 0, 0, 1, _, _, _ => show 1 = _; split <;> omega
  | 0, 1, 0, _, _, _ => show 1 = _; split <;> omega
  | 0, 1, 1, _, _, _ => show 1 = _; split <;> omega
  | 1, 0, 0, _, _, _ => show 0 = _; split <;> omega
  | 1, 0, 1, _, _, _ => show 0 = _; split <;> omega
  | 1, 1, 0, _, _, _ => show 0 = _; split <;> omega
  | 1, 1, 1, _, _, _ => show 1 = _; split <;> omega

theorem sub32_any (x y b : Nat) (w : World) (hx : x < 4294967296) (hy : y < 4294967296) (hb : b ≤ 1) :
    Calls Tryz.prog 85 #[.int .u32 x, .int .u32 y, .int .u32 b] w fun e w' =>
      e = .returned (.tuple #[.int .u32 ((x + 8589934592 - y - b) % 4294967296 : Nat), .int .u32 (borrow x y b : Nat)]) ∧ w = w' := by
  go_enter Tryz.func85, Tryz.ntmps85
  go_wp2
  go_ret2
  have hd : (((x : Int) - (y : Int) - (b : Int)) % 4294967296) = (((x + 8589934592 - y - b) % 4294967296 : Nat) : Int) := by omega
  refine ⟨ret2_int hd ?_, rfl⟩
  have hxy : x ^^^ y < 4294967296 := Nat.xor_lt_two_pow (n := 32) (by omega) (by omega)
  have hnx : 4294967295 ^^^ x < 4294967296 := Nat.xor_lt_two_pow (n := 32) (by omega) (by omega)
  have hnxy : 4294967295 ^^^ (x ^^^ y) < 4294967296 := Nat.xor_lt_two_pow (n := 32) (by omega) (by omega)
  have hdl : (x + 8589934592 - y - b) % 4294967296 < 4294967296 := by omega
  have hm : IntKind.u32.max = ((4294967295 : Nat) : Int) := rfl
  show bits _ _ _ _ / 2147483648 = _
  rw [hd, hm, u32_xor_nat _ _ (by omega) hx, u32_xor_nat _ _ hx hy, u32_and_nat _ _ hnx hy, u32_xor_nat _ _ (by omega) hxy, u32_and_nat _ _ hnxy hdl,
    u32_or_nat _ _ (Nat.lt_of_le_of_lt Nat.and_le_left hnx) (Nat.lt_of_le_of_lt Nat.and_le_left hnxy)]
  have := borrow_bits x y b _ hx hy hb rfl
  omega
end Go.Proofs.YtnknidfpkmnncaaGreat
/- natural.Of, Normal, IsZero, Cmp. -/
namespace Go.Proofs.YtnknidfpkmnncaaGreat
open Go.RowKit

theorem isZero_any (B : Nat) (A : Option Addr) (n c : Nat) (xs : List Nat) (w : World) (h : Dig B w A n c xs) :
    Calls Tryz.prog 64 #[.slice A n c] w fun e w' => e = .returned (.bool (decide (val xs = 0))) ∧ w = w' := by
  go_enter Tryz.func64, Tryz.ntmps64
  go_wp2_with (go_at_call 82; refine (trim_any B _ _ _ _ _ h).mono ?_; rintro e w' ⟨A', n', c', rfl, h', rfl⟩; have hlen := h'.len; have hbd := h'.bd; have hcap := h'.cap)
  go_ret
  refine ⟨?_, rfl⟩
  show Ending.returned (Value.bool _) = _
  congr 2
  rw [Bool.eq_iff_iff, beq_iff_eq, decide_eq_true_eq]
  constructor
  · intro h0
    have : n' = 0 := by omega
    rw [this] at hlen
    exact digs_eq_nil.1 (List.eq_nil_of_length_eq_zero hlen)
  · intro h0
    rw [h0, digs_zero] at hlen
    simp at hlen
    omega

set_option maxHeartbeats 400000 in
theorem cmp_any (B : Nat) (A A2 : Option Addr) (n c n2 c2 : Nat) (xs ys : List Nat) (w : World) (hx : Dig B w A n c xs) (hy : Dig B w A2 n2 c2 ys) :
    Calls Tryz.prog 73 #[.slice A n c, .slice A2 n2 c2] w (ValQ (.int .i64 (cmpN (val xs) (val ys))) w) := by
  go_enter Tryz.func73, Tryz.ntmps73
  go_wp2_with fail
  refine (trim_any B _ _ _ _ _ hx).mono ?_
  rintro e w' ⟨A', n', c', rfl, h', rfl⟩
  have hlen := h'.len
  have hbd := h'.bd
  have hcap := h'.cap
  go_wp2_with fail
  refine (trim_any B _ _ _ _ _ hy).mono ?_
  rintro e w' ⟨A'2, n'2, c'2, rfl, h'2, rfl⟩
  have hlen2 := h'2.len
  have hbd2 := h'2.bd
  have hcap2 := h'2.cap
  clear hx hy
  generalize hvx : val xs = vx at *
  generalize hvy : val ys = vy at *
  have HL := Lib.hid hlen
  have HL2 := Lib.hid hlen2
  have H1 := Lib.hid hvx
  have H2 := Lib.hid hvy
  clear hvx hvy hlen hlen2
  rcases Nat.lt_trichotomy n' n'2 with hlt | heq | hgt
  · go_wp2
    go_ret
    refine ValQ.mk ?_ (Drawn.refl _)
    rw [cmpN_lt (lt_of_length_lt (by rw [HL.out, HL2.out]; exact hlt))]
    rfl
  · obtain rfl := heq
    go_wp2
    go_loopw [5] (fun i wr => ∃ k : Nat, k ≤ n' ∧ i = .int .i64 ((k : Int) - 1) ∧ Hid (val ((digs vx).drop k) = val ((digs vy).drop k)) ∧ Hid (Drawn w wr)) (fun i _ => (intOf i + 1).toNat)
    case atStart =>
      refine ⟨n', Nat.le_refl _, rfl, Lib.hid ?_, Lib.hid (Drawn.refl _)⟩
      rw [List.drop_of_length_le (by rw [HL.out]; omega), List.drop_of_length_le (by rw [HL2.out]; omega)]
    case round =>
      obtain ⟨k, hk, rfl, Heq, Hw⟩ := hrel
      obtain ⟨m, hm⟩ := Hw.out
      subst hm
      rcases k with _ | k
      · go_wp2
        go_ret
        have h1 := Heq.out
        rw [List.drop_zero, List.drop_zero, val_digs, val_digs] at h1
        subst h1
        refine ValQ.mk ?_ (by repeat (first | exact Drawn.refl _ | refine Drawn.drewN ?_ _))
        rw [cmpN_eq]
        rfl
      · obtain ⟨ad, rfl, hc⟩ := h'.cell k (by omega)
        obtain ⟨ad2, rfl, hc2⟩ := h'2.cell k (by omega)
        have e1 : (((k + 1 : Nat) : Int) - 1) = (k : Int) := by omega
        rw [e1]
        clear e1
        have hkx : k < (digs vx).length := by rw [HL.out]; exact hk
        have hky : k < (digs vy).length := by rw [HL2.out]; exact hk
        rcases Nat.lt_trichotomy (dg (digs vx) k) (dg (digs vy) k) with hd | hd | hd
        · have Hgt := Lib.hid (val_gt k hky hkx h'2.dig h'.dig Heq.out.symm hd)
          clear hkx hky Heq
          go_wp2
          go_quiet (fail)
          go_wp2
          go_quiet (fail)
          go_wp2
          go_ret
          have h1 := Hgt.out
          rw [val_digs, val_digs] at h1
          refine ValQ.mk ?_ (by repeat (first | exact Drawn.refl _ | refine Drawn.drewN ?_ _))
          rw [cmpN_lt h1]
          rfl
        · have Heq2 := Lib.hid (val_drop_eq k hkx hky Heq.out hd)
          rw [hd] at hc
          clear hkx hky Heq hd
          go_wp2
          go_quiet (fail)
          go_wp2
          go_quiet (fail)
          go_wp2
          go_roundw
          case rel => exact ⟨k, by omega, rfl, Heq2, Lib.hid (by repeat (first | exact Drawn.refl _ | refine Drawn.drewN ?_ _))⟩
          case measure => simp [intOf]
        · have Hgt := Lib.hid (val_gt k hkx hky h'.dig h'2.dig Heq.out hd)
          clear hkx hky Heq
          go_wp2
          go_quiet (fail)
          go_wp2
          go_ret
          have h1 := Hgt.out
          rw [val_digs, val_digs] at h1
          refine ValQ.mk ?_ (by repeat (first | exact Drawn.refl _ | refine Drawn.drewN ?_ _))
          rw [cmpN_gt h1]
          rfl
  · go_wp2
    go_ret
    refine ValQ.mk ?_ (Drawn.refl _)
    rw [cmpN_gt (lt_of_length_lt (by rw [HL.out, HL2.out]; exact hgt))]
    rfl
end Go.Proofs.YtnknidfpkmnncaaGreat
/- append onto a row of the call's own from a slice that reads as a list; natural.Of, Normal. -/
namespace Go.Proofs.YtnknidfpkmnncaaGreat
open Go.RowKit

section
variable {P : Program} (w : World)

theorem run_append_of_nil (base : Nat) (t ty e : TypeId) (i : TypeInfo) (size : Nat) (ht : P.underlying t = some (.slice e)) (hi : P.info? e = some i)
    (v : Value) (n : Nat) (xs : List Value) (hown : w.ownsRow base e size v n xs) (c : Nat) : (Builtin.append_ #[t, t] ty #[v, .slice none 0 c]).run P w = .ok v w := by
  rcases hown.2 with ⟨rfl, rfl⟩ | ⟨g, cap, cur, rfl, _, _, hnc, _⟩
  · simp [Builtin.append_, run_underlying ht, sizeOf, typeInfo, hi, Builtin.lenOf, Builtin.firstCells]
  · simp [Builtin.append_, run_underlying ht, sizeOf, typeInfo, hi, Builtin.lenOf, Builtin.firstCells, hnc, storeCells]

theorem run_append_row (base : Nat) (t ty e : TypeId) (i : TypeInfo) (z : Value) (size bytes : Nat) (ht : P.underlying t = some (.slice e)) (hi : P.info? e = some i) (hz : i.zero = some z)
    (hsize : i.size = size) (hby : i.bytes = bytes) (hzs : z.cells.size = size) (hsz : 0 < size)
    (v : Value) (n : Nat) (xs : List Value) (hown : w.ownsRow base e size v n xs)
    (B T : Nat) (A : Option Addr) (m c : Nat) (news : List Value) (hr : Row B T w A m c size news) (h1 : ∀ u ∈ news, u.oneCell' = true)
    (h63 : n + m ≤ maxLen) (hbytes : (n + m) * bytes ≤ 140737488355328) (hbase : base ≤ w.heap.size) :
    ∃ v' w', (Builtin.append_ #[t, t] ty #[v, .slice A m c]).run P w = .ok v' w' ∧ w'.ownsRow base e size v' (n + m) (xs ++ news) ∧ w.grownBy w' v.ownBlock ∧
      (v'.ownBlock = v.ownBlock ∨ v'.ownBlock = some w.heap.size) := by
  rcases A with _ | ad
  · have hm : m = 0 := by
      rcases Nat.eq_zero_or_pos m with h0 | h0
      · exact h0
      · obtain ⟨ad, h, _⟩ := hr.cell h0
        cases h
    subst hm
    have hn : news = [] := List.eq_nil_of_length_eq_zero (by simpa using hr.len)
    subst hn
    exact ⟨v, w, run_append_of_nil w base t ty e i size ht hi v n xs hown c, by simpa using hown, World.grownBy.refl w _, .inl rfl⟩
  · have hcells : ∀ j u, news[j]? = some u → w.cell? (ad.add j) = some u := by
      intro j u hu
      rcases Nat.eq_zero_or_pos m with h0 | h0
      · subst h0
        have hn : news = [] := List.eq_nil_of_length_eq_zero (by simpa using hr.len)
        subst hn
        simp at hu
      · obtain ⟨ad', h, _, hc⟩ := hr.cell h0
        injection h with h
        subst h
        exact hc j u hu
    obtain ⟨v', w', hrun, h2, h3, _, h5⟩ := run_append_own_at (P := P) w base t ty e i z size bytes ht hi hz hsize hby hzs hsz v n xs hown ad m c news hr.len hcells h1 h63 hbytes hbase
    exact ⟨v', w', hrun, h2, h3, h5⟩

theorem wp_append_row {o : Oper} {a : Act} {K : Act → World → Prop} {Q : Exit → Act → World → Prop} (s x : Operand) (t : TypeId)
    (ho : o.op = .call { callee := .builtin .append, args := #[s, x], argTypes := #[t, t] })
    (base : Nat) (e : TypeId) (i : TypeInfo) (z : Value) (size bytes : Nat) (ht : P.underlying t = some (.slice e)) (hi : P.info? e = some i) (hz : i.zero = some z)
    (hsize : i.size = size) (hby : i.bytes = bytes) (hzs : z.cells.size = size) (hsz : 0 < size)
    (v : Value) (n : Nat) (xs : List Value) (hs : a.eval s = v) (hown : w.ownsRow base e size v n xs)
    (B T : Nat) (A : Option Addr) (m c : Nat) (news : List Value) (hx : a.eval x = .slice A m c) (hr : Row B T w A m c size news) (h1 : ∀ u ∈ news, u.oneCell' = true)
    (h63 : n + m ≤ maxLen) (hbytes : (n + m) * bytes ≤ 140737488355328) (hbase : base ≤ w.heap.size)
    (h : ∀ v' w', w'.ownsRow base e size v' (n + m) (xs ++ news) → w.grownBy w' v.ownBlock → (v'.ownBlock = v.ownBlock ∨ v'.ownBlock = some w.heap.size) → K (a.put o.dst v') w') : o.wp P a w K Q := by
  obtain ⟨v', w', hrun, h2, h3, h4⟩ := run_append_row (P := P) w base t o.type e i z size bytes ht hi hz hsize hby hzs hsz v n xs hown B T A m c news hr h1 h63 hbytes hbase
  unfold Oper.wp execOp
  simp only [ho, resolve, invoke, builtin, Sem.run_bind, Sem.run_pure, Result.andThen_ok, List.map_toArray, List.map_cons, List.map_nil, hs, hx, hrun]
  exact h v' w' h2 h3 h4

theorem wpList_append_row {ops : Array Oper} {rest : List Oper} {o : Oper} {a : Act} {Q : Exit → Act → World → Prop} (hgd : o.guard = none) (s x : Operand) (t : TypeId)
    (ho : o.op = .call { callee := .builtin .append, args := #[s, x], argTypes := #[t, t] })
    (base : Nat) (e : TypeId) (i : TypeInfo) (z : Value) (size bytes : Nat) (ht : P.underlying t = some (.slice e)) (hi : P.info? e = some i) (hz : i.zero = some z)
    (hsize : i.size = size) (hby : i.bytes = bytes) (hzs : z.cells.size = size) (hsz : 0 < size)
    (v : Value) (n : Nat) (xs : List Value) (hs : a.eval s = v) (hown : w.ownsRow base e size v n xs)
    (B T : Nat) (A : Option Addr) (m c : Nat) (news : List Value) (hx : a.eval x = .slice A m c) (hr : Row B T w A m c size news) (h1 : ∀ u ∈ news, u.oneCell' = true)
    (h63 : n + m ≤ maxLen) (hbytes : (n + m) * bytes ≤ 140737488355328) (hbase : base ≤ w.heap.size)
    (h : ∀ v' w', w'.ownsRow base e size v' (n + m) (xs ++ news) → w.grownBy w' v.ownBlock → (v'.ownBlock = v.ownBlock ∨ v'.ownBlock = some w.heap.size) → wpList P ops Q rest (a.put o.dst v') w') : wpList P ops Q (o :: rest) a w :=
  wpList_plain hgd fun _ hK => wp_append_row w s x t ho base e i z size bytes ht hi hz hsize hby hzs hsz v n xs hs hown B T A m c news hx hr h1 h63 hbytes hbase fun v' w' h2 h3 h4 => hK _ _ (h v' w' h2 h3 h4)
end

theorem Row.new (B T : Nat) (w : World) (n z : Nat) (cs : Array Value) (hl : cs.size = n * z) (hn : n ≤ 9223372036854775807) : Row B T (w.alloc (.cells cs T)) (some ⟨w.heap.size, 0, none⟩) n n z cs.toList := by
  refine ⟨by simpa using hl, Nat.le_refl _, hn, fun _ => ⟨_, rfl, .inr ⟨cs, heap_alloc_new w _⟩, fun k u hu => ?_⟩⟩
  have h := heap_alloc_new w (.cells cs T)
  have ha : (⟨w.heap.size, 0, none⟩ : Addr).add k = ⟨w.heap.size, k, none⟩ := by unfold Addr.add; split <;> simp_all
  rw [ha, cell_of_row _ _ k cs T (0, 0) h]
  simpa using hu

theorem own_slice {w : World} {base n : Nat} {e : TypeId} {size : Nat} {v : Value} {xs : List Value} (h : w.ownsRow base e size v n xs) : ∃ A c, v = .slice A n c := by
  rcases h.2 with ⟨rfl, rfl⟩ | ⟨g, cap, cur, rfl, _⟩
  · exact ⟨none, 0, rfl⟩
  · exact ⟨_, cap, rfl⟩

theorem of_any (B n : Nat) (w : World) (hn : n < 18446744073709551616) :
    Calls Tryz.prog 65 #[.int .u64 n] w (NatP B n w) := by
  have hv : val [n % 4294967296, n / 4294967296] = n := by simp only [val]; omega
  have HV := Lib.hid hv
  clear hv
  go_enter Tryz.func65, Tryz.ntmps65
  go_wp2_with fail
  have hd : Dig B (w.alloc (.cells #[.int .u32 ((n : Int) % 4294967296), .int .u32 ((n : Int) / 4294967296)] 83)) (some ⟨w.heap.size, 0, none⟩) 2 2 [n % 4294967296, n / 4294967296] := by
    refine ⟨?_, Lt32.cons (by omega) (Lt32.cons (by omega) Lt32.nil)⟩
    have := Row.new B 83 w 2 1 #[.int .u32 ((n : Int) % 4294967296), .int .u32 ((n : Int) / 4294967296)] rfl (by omega)
    exact this
  refine (trim_any B _ _ _ _ _ hd).mono ?_
  rintro e w' ⟨A', n', c', rfl, h', rfl⟩
  clear hd
  go_wp2
  go_ret
  rw [HV.out] at h'
  exact ⟨A', n', c', rfl, h', (Below.refl _ _).alloc (Nat.le_refl _) _⟩

theorem u32info : (Tryz.prog.info? 83).map (fun i => (i.zero, i.size, i.bytes)) = some (some (.int .u32 0), 1, 4) := by kernel_rfl

theorem normal_any (B : Nat) (A : Option Addr) (n c : Nat) (xs : List Nat) (w : World) (h : Dig B w A n c xs) (hl : n ≤ 1099511627776) :
    Calls Tryz.prog 79 #[.slice A n c] w (NatP B (val xs) w) := by
  obtain ⟨i0, hi, hz0, hz1, hz2⟩ := info_parts u32info
  have hlb : (digs (val xs)).length ≤ n := by
    have := val_lt h.dig
    rw [h.len] at this
    exact digs_length_le this
  go_enter Tryz.func79, Tryz.ntmps79
  go_wp2_with fail
  refine (trim_any B _ _ _ _ _ h).mono ?_
  rintro e w' ⟨A', n', c', rfl, h', rfl⟩
  have hn' : n' ≤ n := by rw [← h'.len]; exact hlb
  generalize val xs = m at *
  clear hlb h
  go_wp2_with (at_builtin; refine wpList_append_row _ rfl _ _ 51 rfl w.heap.size 83 i0 (.int .u32 0) 1 4 Tryz.underlying51 hi hz0 hz1 hz2 rfl (by decide) (.slice none 0 0) 0 [] rfl (World.ownsRow_nil _ _ _ _) B _ A' n' c' (digCells (digs m)) rfl h'.row (digCells_one _) (by simp only [maxLen]; omega) (by omega) (Nat.le_refl _) ?_; intro v1 w1 hown hg _)
  rw [Nat.zero_add, List.nil_append] at hown
  obtain ⟨A2, c2, rfl⟩ := own_slice hown
  go_wp2
  go_ret
  exact ⟨A2, n', c2, rfl, Dig.of_own hown h'.dig, (Below.refl _ _).grown hg (Nat.le_refl _) (by simp [Value.ownBlock])⟩
end Go.Proofs.YtnknidfpkmnncaaGreat
/- natural.Add. -/
namespace Go.Proofs.YtnknidfpkmnncaaGreat
open Go.RowKit

theorem ret_int {k : IntKind} {a b : Int} (h : a = b) : Ending.returned (.int k a) = .returned (.int k b) := by rw [h]

theorem add1_any (x y c : Nat) (p : Addr) (w : World) (hx : x < 4294967296) (hy : y < 4294967296) (hc : c ≤ 1) (hp : w.cell? p = some (.int .u32 c)) (hf : w.frozen? p = false) :
    Calls Tryz.prog 83 #[.int .u32 x, .int .u32 y, .pointer (some p)] w fun e w' =>
      e = .returned (.int .u32 ((x + y + c) % 4294967296 : Nat)) ∧ w.setCell p (.int .u32 ((x + y + c) / 4294967296 : Nat)) = w' := by
  go_enter Tryz.func83, Tryz.ntmps83
  go_wp2_with (go_at_call 84; refine (add32_any x y c _ hx hy hc).mono ?_; rintro e w' ⟨rfl, rfl⟩)
  go_ret
  exact ⟨rfl, rfl⟩

/-- The digits of a block that the call has made: block g holds the digits xs of the type uint32. -/
def Made (w : World) (g : Nat) (xs : List Nat) : Prop := w.heap[g]? = some (.cells (digCells xs).toArray 83 (0, 0))

theorem Made.cell {w : World} {g : Nat} {xs : List Nat} (h : Made w g xs) {k : Nat} (hk : k < xs.length) : w.cell? ⟨g, k, none⟩ = some (.int .u32 ((dg xs k : Nat) : Int)) := by
  rw [cell_of_row _ _ k _ _ _ h, List.getElem?_toArray, digCells_at hk]
theorem Made.frozen {w : World} {g : Nat} {xs : List Nat} (h : Made w g xs) (k : Nat) : w.frozen? ⟨g, k, none⟩ = false := by
  unfold Made at h
  simp [World.frozen?, h]
theorem Made.set_ {w : World} {g : Nat} {xs : List Nat} (h : Made w g xs) (k v : Nat) : Made (w.setCell ⟨g, k, none⟩ (.int .u32 (v : Int))) g (xs.set k v) := by
  unfold Made at h ⊢
  have : digCells (xs.set k v) = (digCells xs).set k (.int .u32 (v : Int)) := by unfold digCells; rw [List.map_set]
  simp [World.setCell, Array.getElem?_modify, h, this]
theorem Made.far {w : World} {g : Nat} {xs : List Nat} (h : Made w g xs) {p : Addr} (hp : g ≠ p.block) (u : Value) : Made (w.setCell p u) g xs := (Below.heap_setCell w p u g hp).trans h
theorem Made.lt {w : World} {g : Nat} {xs : List Nat} (h : Made w g xs) : g < w.heap.size := by
  rcases Nat.lt_or_ge g w.heap.size with hlt | hge
  · exact hlt
  · unfold Made at h; rw [Array.getElem?_eq_none hge] at h; cases h
theorem Made.below {w w' : World} {g : Nat} {xs : List Nat} (h : Made w g xs) {B : Nat} (hb : Below B w w') (hg : g < B) : Made w' g xs := (hb.block g hg).trans h
theorem Made.alloc {w : World} {g : Nat} {xs : List Nat} (h : Made w g xs) (o : Obj) : Made (w.alloc o) g xs := (Below.heap_alloc w o g h.lt).trans h
theorem Made.dig {w : World} {g : Nat} {xs : List Nat} (h : Made w g xs) (hd : Lt32 xs) (hl : xs.length ≤ 9223372036854775807) (B : Nat) : Dig B w (some ⟨g, 0, none⟩) xs.length xs.length xs := by
  refine ⟨⟨by simp [digCells_length], Nat.le_refl _, hl, fun _ => ⟨_, rfl, .inr ⟨_, h⟩, fun k u hu => ?_⟩⟩, hd⟩
  have ha : (⟨g, 0, none⟩ : Addr).add k = ⟨g, k, none⟩ := by unfold Addr.add; split <;> simp_all
  rw [ha, cell_of_row _ _ k _ _ _ h]
  simpa using hu

/-- A row of zero digits. -/
def zeroRow (n : Nat) : Array Value := (digCells (List.replicate n 0)).toArray
theorem Made.new (w : World) (n : Nat) : Made (w.alloc (.cells (zeroRow n) 83)) w.heap.size (List.replicate n 0) := heap_alloc_new w _
theorem run_make_digits (n : Nat) (x : Int) (hx : x = n) (hn : n ≤ 35184372088832) (w : World) :
    (Instr.makeSlice 51 (.int .i64 x) (.int .i64 x)).run Tryz.prog w = .ok (.slice (some ⟨w.heap.size, 0, none⟩) n n) (w.alloc (.cells (zeroRow n) 83)) := by
  obtain ⟨i0, hi, hz0, hz1, hz2⟩ := info_parts u32info
  subst hx
  have hr := run_make (P := Tryz.prog) w 51 83 i0 (.int .u32 0) Tryz.underlying51 hi hz0 .i64 .i64 n n (by omega) (by omega) (by rw [hz2]; omega) (by omega)
  rw [hr]
  have e : madeCells (Value.int IntKind.u32 0).cells (n * i0.size) = zeroRow n := by
    rw [hz1]
    refine Array.ext (by simp [madeCells, zeroRow, digCells]) fun i h1 h2 => ?_
    simp only [madeCells, zeroRow, digCells, Value.cells, Array.getElem_map, List.getElem_toArray, List.getElem_map, List.getElem_replicate]
    have : i % (#[Value.int IntKind.u32 0] : Array Value).size = 0 := Nat.mod_one _
    rw [Array.getElem_range, this]
    rfl
  simp [e]

/-- The state of a sum's loop: the row that is made, and the carry. -/
structure AddRel (w : World) (na : Nat) (zs : List Nat) (cy : Nat) (wr : World) : Prop where
  made : Made wr w.heap.size zs
  len : zs.length = na + 1
  lt : Lt32 zs
  car : Made wr (w.heap.size + 1) [cy]
  cy : cy ≤ 1
  below : Below w.heap.size w wr
theorem AddRel.carry {w wr : World} {na cy : Nat} {zs : List Nat} (h : AddRel w na zs cy wr) : wr.cell? ⟨w.heap.size + 1, 0, none⟩ = some (.int .u32 cy) := h.car.cell (k := 0) (by simp)
theorem AddRel.frozen {w wr : World} {na cy : Nat} {zs : List Nat} (h : AddRel w na zs cy wr) : wr.frozen? ⟨w.heap.size + 1, 0, none⟩ = false := h.car.frozen 0
theorem AddRel.start (w : World) (na : Nat) : AddRel w na (List.replicate (na + 1) 0) 0 ((w.alloc (Obj.cells (zeroRow (na + 1)) 83)).alloc (Obj.cells #[Value.int IntKind.u32 0] 83)) where
  made := (Made.new w (na + 1)).alloc _
  len := by simp
  lt := lt32_replicate _
  car := by
    have := heap_alloc_new (w.alloc (Obj.cells (zeroRow (na + 1)) 83)) (Obj.cells #[Value.int IntKind.u32 0] 83)
    simpa [Made, digCells] using this
  cy := by omega
  below := ((Below.refl _ _).alloc (Nat.le_refl _) _).alloc (by simp) _
theorem AddRel.step {w wr : World} {na cy : Nat} {zs : List Nat} (h : AddRel w na zs cy wr) (k s c' : Nat) (hs : s < 4294967296) (hc : c' ≤ 1) :
    AddRel w na (zs.set k s) c' ((wr.setCell ⟨w.heap.size + 1, 0, none⟩ (.int .u32 c')).setCell ⟨w.heap.size, k, none⟩ (.int .u32 s)) where
  made := (h.made.far (p := ⟨w.heap.size + 1, 0, none⟩) (by simp) _).set_ k s
  len := by simpa using h.len
  lt := h.lt.set k hs
  car := (h.car.set_ 0 c').far (p := ⟨w.heap.size, k, none⟩) (by simp) _
  cy := hc
  below := (h.below.setCell (by simp) _).setCell (by simp) _

/-- What the swap leaves: the longer number first. -/
def AddCut (B s : Nat) (w : World) (s0 s1 : Value) (wx : World) : Prop :=
  ∃ Aa na ca Ab nb cb p q, s0 = .slice Aa na ca ∧ s1 = .slice Ab nb cb ∧ Dig B w Aa na ca (digs p) ∧ Dig B w Ab nb cb (digs q) ∧ p + q = s ∧ nb ≤ na ∧ na ≤ 1099511627776 ∧ w = wx

theorem digs_len_of {B : Nat} {A : Option Addr} {n c : Nat} {xs : List Nat} {w : World} (hx : Dig B w A n c xs) : (digs (val xs)).length ≤ n := by
  have := val_lt hx.dig
  rw [hx.len] at this
  exact digs_length_le this

set_option maxRecDepth 100000 in
set_option maxHeartbeats 1000000 in
theorem add_any (B : Nat) (A A2 : Option Addr) (n c n2 c2 : Nat) (xs ys : List Nat) (w : World) (hx : Dig B w A n c xs) (hy : Dig B w A2 n2 c2 ys) (hn : n ≤ 1099511627776) (hn2 : n2 ≤ 1099511627776) :
    Calls Tryz.prog 61 #[.slice A n c, .slice A2 n2 c2] w (NatP B (val xs + val ys) w) := by
  have hxl := digs_len_of hx
  have hyl := digs_len_of hy
  go_enter Tryz.func61, Tryz.ntmps61
  go_wp2_with fail
  refine (trim_any B _ _ _ _ _ hx).mono ?_
  rintro e w' ⟨A', n', c', rfl, h', rfl⟩
  have hbd := h'.bd
  have hcap := h'.cap
  go_wp2_with fail
  refine (trim_any B _ _ _ _ _ hy).mono ?_
  rintro e w' ⟨A'2, n'2, c'2, rfl, h'2, rfl⟩
  have hbd2 := h'2.bd
  have hcap2 := h'2.cap
  have hn' : n' ≤ 1099511627776 := by have := h'.len; omega
  have hn2' : n'2 ≤ 1099511627776 := by have := h'2.len; omega
  clear hx hy hxl hyl
  generalize val xs = p at *
  generalize val ys = q at *
  go_upto_if 19 with (fail)
  go_cut [0, 1] (fun s0 s1 wx => AddCut B (p + q) w s0 s1 wx)
  case first =>
    by_cases hlt : n' < n'2
    · go_wp2
      go_meet
      exact ⟨_, _, _, _, _, _, q, p, rfl, rfl, h'2, h', Nat.add_comm _ _, by omega, hn2', rfl⟩
    · go_wp2
      go_meet
      exact ⟨_, _, _, _, _, _, p, q, rfl, rfl, h', h'2, rfl, by omega, hn', rfl⟩
  case rest =>
    clear h' h'2 hbd hcap hbd2 hcap2 hn' hn2'
    obtain ⟨Aa, na, ca, Ab, nb, cb, p', q', rfl, rfl, ha, hb, hsum, hle, hna, rfl⟩ := hcut
    have HS := Lib.hid hsum
    clear hsum
    have hmk := fun W => run_make_digits (na + 1) ((na : Int) + 1) (by omega) (by omega) W
    go_wp2
    go_loopw [29] (fun i wr => ∃ (k cy : Nat) (zs : List Nat), k ≤ nb ∧ i = .int .i64 k ∧ AddRel w na zs cy wr ∧ Hid (val (zs.take k) + bp k * cy = val ((digs p').take k) + val ((digs q').take k)))
      (fun i _ => nb - (intOf i).toNat)
    case atStart => exact ⟨0, 0, _, Nat.zero_le _, rfl, AddRel.start w na, Lib.hid (by simp [val_nil])⟩
    case round =>
      obtain ⟨k, cy, zs, hk, rfl, hR, HV⟩ := hrel
      have hcy := hR.cy
      have hcell := hR.carry
      have hfr := hR.frozen
      by_cases hlt : k < nb
      · obtain ⟨ad, rfl, hca⟩ := ha.cell k (by omega)
        obtain ⟨ad2, rfl, hcb⟩ := hb.cell k hlt
        have hca' := (hR.below.cell (World.block_lt_of_cell? w _ hca)).trans hca
        have hcb' := (hR.below.cell (World.block_lt_of_cell? w _ hcb)).trans hcb
        have hout := hR.made.cell (k := k) (by rw [hR.len]; omega)
        have houtf := hR.made.frozen k
        have hda := ha.dig k
        have hdb := hb.dig k
        have hkz : k < zs.length := by rw [hR.len]; omega
        have hkx : k < (digs p').length := by rw [ha.len]; omega
        have hky : k < (digs q').length := by rw [hb.len]; exact hlt
        have HN := Lib.hid (add_round hkz hkx hky HV.out)
        have HR2 := hR.step k ((dg (digs p') k + dg (digs q') k + cy) % 4294967296) ((dg (digs p') k + dg (digs q') k + cy) / 4294967296) (by omega) (by omega)
        clear hca hcb HV hkz hkx hky hmk
        go_wp2_with fail
        refine (add1_any _ _ _ _ _ hda hdb hcy hcell hfr).mono ?_
        rintro e w' ⟨rfl, rfl⟩
        go_wp2
        go_roundw
        case rel => exact ⟨k + 1, _, _, by omega, by go_num, HR2, HN⟩
        case measure => simp [intOf]; omega
      · have hk' : k = nb := by omega
        subst hk'
        have HV2 := Lib.hid (show val (zs.take k) + bp k * cy = val ((digs p').take k) + q' by rw [HV.out, val_take_all (digs q') k (by rw [hb.len]; exact Nat.le_refl _), val_digs q'])
        clear HV hmk hcell hfr
        go_wp2
        go_loopw [10] (fun i wr => ∃ (m cy : Nat) (zs : List Nat), m ≤ na ∧ i = .int .i64 m ∧ AddRel w na zs cy wr ∧ Hid (val (zs.take m) + bp m * cy = val ((digs p').take m) + q'))
          (fun i _ => na - (intOf i).toNat)
        case atStart => exact ⟨k, _, _, hle, rfl, hR, HV2⟩
        case round =>
          clear HV2 hR hcy
          obtain ⟨m, cy, zs, hm, rfl, hR, HV⟩ := hrel
          have hcy := hR.cy
          have hcell := hR.carry
          have hfr := hR.frozen
          by_cases hlt : m < na
          · obtain ⟨ad, rfl, hca⟩ := ha.cell m (by omega)
            have hca' := (hR.below.cell (World.block_lt_of_cell? w _ hca)).trans hca
            have hout := hR.made.cell (k := m) (by rw [hR.len]; omega)
            have houtf := hR.made.frozen m
            have hda := ha.dig m
            have hkz : m < zs.length := by rw [hR.len]; omega
            have hkx : m < (digs p').length := by rw [ha.len]; omega
            have HN := Lib.hid (add_round2 hkz hkx HV.out)
            have HR2 := hR.step m ((dg (digs p') m + 0 + cy) % 4294967296) ((dg (digs p') m + 0 + cy) / 4294967296) (by omega) (by omega)
            clear hca HV hkz hkx
            go_wp2_with fail
            refine (add1_any _ 0 _ _ _ hda (by omega) hcy hcell hfr).mono ?_
            rintro e w' ⟨rfl, rfl⟩
            go_wp2
            go_roundw
            case rel => exact ⟨m + 1, _, _, by omega, by go_num, HR2, HN⟩
            case measure => simp [intOf]; omega
          · have hm' : m = na := by omega
            subst hm'
            have hout := hR.made.cell (k := m) (by rw [hR.len]; omega)
            have houtf := hR.made.frozen m
            have hval : val (zs.set m cy) = p' + q' := by
              rw [add_last hR.len, HV.out, val_take_all (digs p') m (by rw [ha.len]; exact Nat.le_refl _), val_digs p']
            have HVal := Lib.hid hval
            have hmade := hR.made.set_ m cy
            have hlen : (zs.set m cy).length = m + 1 := by simpa using hR.len
            have hlt32 := hR.lt.set m (v := cy) (by omega)
            have hd := hmade.dig hlt32 (by omega) B
            rw [hlen] at hd
            have hbel := hR.below.setCell (p := ⟨w.heap.size, m, none⟩) (by simp) (.int .u32 cy)
            clear hval hmade hlen hlt32 HV hR
            go_wp2_with fail
            refine (trim_any B _ _ _ _ _ hd).mono ?_
            rintro e w' ⟨Az, nz, cz, rfl, hz, rfl⟩
            go_wp2
            go_ret
            rw [HVal.out] at hz
            rw [← HS.out]
            exact ⟨_, _, _, rfl, hz, hbel⟩
end Go.Proofs.YtnknidfpkmnncaaGreat
/- natural.Sub. -/
namespace Go.Proofs.YtnknidfpkmnncaaGreat
open Go.RowKit

theorem Dig.drewN {B : Nat} {w : World} {A : Option Addr} {n c : Nat} {xs : List Nat} (h : Dig B w A n c xs) (k : Nat) : Dig B (w.drewN k) A n c xs :=
  h.below ((Drawn.refl w).drewN k |>.below w.heap.size) (Nat.le_refl _)

/-- What comes back: no digits and false; only orders have been drawn. -/
def SubNo (w : World) (e : Ending) (w' : World) : Prop := e = .returned (.tuple #[.slice none 0 0, .bool false]) ∧ Drawn w w'
/-- What comes back: the digits of m and true; what existed is as it was. -/
def SubYes (B m : Nat) (w : World) (e : Ending) (w' : World) : Prop :=
  ∃ A' n' c', e = .returned (.tuple #[.slice A' n' c', .bool true]) ∧ Dig B w' A' n' c' (digs m) ∧ Below w.heap.size w w'

set_option maxHeartbeats 1000000 in
theorem sub_no (B : Nat) (A A2 : Option Addr) (n c n2 c2 : Nat) (xs ys : List Nat) (w : World) (hx : Dig B w A n c xs) (hy : Dig B w A2 n2 c2 ys) (h : val xs < val ys) :
    Calls Tryz.prog 62 #[.slice A n c, .slice A2 n2 c2] w (SubNo w) := by
  have hc := cmp_any B _ _ _ _ _ _ _ _ _ hx hy
  rw [cmpN_lt h] at hc
  go_enter Tryz.func62, Tryz.ntmps62
  go_wp2_with fail
  refine hc.mono ?_
  rintro e w' ⟨rfl, m, rfl⟩
  clear hc
  go_wp2
  go_ret2
  exact ⟨rfl, m, rfl⟩

/-- The state of a difference's loop. -/
structure SubRel (w : World) (na : Nat) (zs : List Nat) (b : Nat) (wr : World) : Prop where
  made : Made wr w.heap.size zs
  len : zs.length = na
  lt : Lt32 zs
  b : b ≤ 1
  below : Below w.heap.size w wr
theorem SubRel.start (w : World) (m na : Nat) : SubRel w na (List.replicate na 0) 0 ((w.drewN m).alloc (Obj.cells (zeroRow na) 83)) where
  made := Made.new (w.drewN m) na
  len := by simp
  lt := lt32_replicate _
  b := by omega
  below := ((Drawn.refl w).drewN m |>.below w.heap.size).alloc (Nat.le_refl _) _
theorem SubRel.step {w wr : World} {na b : Nat} {zs : List Nat} (h : SubRel w na zs b wr) (k s b' : Nat) (hs : s < 4294967296) (hb : b' ≤ 1) :
    SubRel w na (zs.set k s) b' (wr.setCell ⟨w.heap.size, k, none⟩ (.int .u32 s)) where
  made := h.made.set_ k s
  len := by simpa using h.len
  lt := h.lt.set k hs
  b := hb
  below := h.below.setCell (by simp) _

set_option maxRecDepth 100000 in
set_option maxHeartbeats 1000000 in
theorem sub_yes (B : Nat) (A A2 : Option Addr) (n c n2 c2 : Nat) (xs ys : List Nat) (w : World) (hx : Dig B w A n c xs) (hy : Dig B w A2 n2 c2 ys) (hn : n ≤ 1099511627776) (hn2 : n2 ≤ 1099511627776) (h : val ys ≤ val xs) :
    Calls Tryz.prog 62 #[.slice A n c, .slice A2 n2 c2] w (SubYes B (val xs - val ys) w) := by
  have hxl := digs_len_of hx
  have hyl := digs_len_of hy
  have hc := cmp_any B _ _ _ _ _ _ _ _ _ hx hy
  obtain ⟨cv, hcv, hcv0⟩ : ∃ cv, cmpN (val xs) (val ys) = cv ∧ (cv = 0 ∨ cv = 1) := by
    refine ⟨_, rfl, ?_⟩
    rcases Nat.lt_or_ge (val ys) (val xs) with h1 | h1
    · exact .inr (cmpN_gt h1)
    · have : val xs = val ys := by omega
      rw [this, cmpN_eq]; exact .inl rfl
  rw [hcv] at hc
  have hcv1 : 0 ≤ cv := by omega
  clear hcv hcv0
  have HC := Lib.hid hc
  clear hc
  go_enter Tryz.func62, Tryz.ntmps62
  go_wp2_with fail
  refine HC.out.mono ?_
  rintro e w' ⟨rfl, m, rfl⟩
  clear HC
  have hx' := hx.drewN m
  have hy' := hy.drewN m
  go_wp2_with fail
  refine (trim_any B _ _ _ _ _ hx').mono ?_
  rintro e w' ⟨A', n', c', rfl, h', rfl⟩
  have hbd := h'.bd
  have hcap := h'.cap
  go_wp2_with fail
  refine (trim_any B _ _ _ _ _ hy').mono ?_
  rintro e w' ⟨A'2, n'2, c'2, rfl, h'2, rfl⟩
  have hbd2 := h'2.bd
  have hcap2 := h'2.cap
  have hn' : n' ≤ 1099511627776 := by have := h'.len; omega
  have hn2' : n'2 ≤ 1099511627776 := by have := h'2.len; omega
  clear hx hy hxl hyl hx' hy'
  generalize val xs = p at *
  generalize val ys = q at *
  have hnm : n'2 ≤ n' := by
    have := digs_length_mono h
    rw [h'.len, h'2.len] at this
    exact this
  have hmk := fun W => run_make_digits n' (n' : Int) rfl (by omega) W
  go_wp2
  go_loopw [7, 24] (fun b i wr => ∃ (k bw : Nat) (zs : List Nat), k ≤ n' ∧ i = .int .i64 k ∧ b = .int .u32 bw ∧ SubRel w n' zs bw wr ∧ Hid (val (zs.take k) + val ((digs q).take k) = val ((digs p).take k) + bp k * bw))
    (fun _ i _ => n' - (intOf i).toNat)
  case atStart => exact ⟨0, 0, _, Nat.zero_le _, rfl, rfl, SubRel.start w m n', Lib.hid (by simp [val_nil])⟩
  case round =>
    obtain ⟨k, bw, zs, hk, rfl, rfl, hR, HV⟩ := hrel
    have hbw := hR.b
    by_cases hlt : k < n'
    · obtain ⟨ad, rfl, hca⟩ := h'.cell k hlt
      have hca' := (hR.below.cell (World.block_lt_of_cell? w _ hca)).trans hca
      have hout := hR.made.cell (k := k) (by rw [hR.len]; exact hlt)
      have houtf := hR.made.frozen k
      have hda := h'.dig k
      have hdb := h'2.dig k
      have hkz : k < zs.length := by rw [hR.len]; exact hlt
      have HN := Lib.hid (sub_round hkz hda hdb hbw HV.out (by have := Nat.mul_le_mul_left (bp k) hbw; simpa using this))
      have HR2 := hR.step k ((dg (digs p) k + 8589934592 - dg (digs q) k - bw) % 4294967296) (borrow (dg (digs p) k) (dg (digs q) k) bw) (by omega) (borrow_le _ _ _)
      clear HV hkz hmk hca
      by_cases hlt2 : k < n'2
      · obtain ⟨ad2, rfl, hcb⟩ := h'2.cell k hlt2
        have hcb' := (hR.below.cell (World.block_lt_of_cell? w _ hcb)).trans hcb
        clear hcb
        go_wp2_with fail
        refine (sub32_any _ _ _ _ hda hdb hbw).mono ?_
        rintro e w' ⟨rfl, rfl⟩
        go_wp2
        go_roundw
        case rel => exact ⟨k + 1, _, _, by omega, by go_num, rfl, HR2, HN⟩
        case measure => simp [intOf]; omega
      · have hz : dg (digs q) k = 0 := dg_beyond _ _ (by rw [h'2.len]; omega)
        rw [hz] at hdb HN HR2
        clear hz
        go_wp2_with fail
        refine (sub32_any _ 0 _ _ hda hdb hbw).mono ?_
        rintro e w' ⟨rfl, rfl⟩
        go_wp2
        go_roundw
        case rel => exact ⟨k + 1, _, _, by omega, by go_num, rfl, HR2, HN⟩
        case measure => simp [intOf]; omega
    · have hk' : k = n' := by omega
      subst hk'
      have hval : val zs = p - q := by
        have h1 := HV.out
        rw [val_take_all zs k (by rw [hR.len]; exact Nat.le_refl _), val_take_all (digs p) k (by rw [h'.len]; exact Nat.le_refl _), val_take_all (digs q) k (by rw [h'2.len]; exact hnm), val_digs, val_digs] at h1
        exact sub_last hR.len hR.lt hbw h h1
      have HVal := Lib.hid hval
      have hd := hR.made.dig hR.lt (by rw [hR.len]; omega) B
      rw [hR.len] at hd
      have hbel := hR.below
      clear hval HV hR hmk
      go_wp2_with fail
      refine (trim_any B _ _ _ _ _ hd).mono ?_
      rintro e w' ⟨Az, nz, cz, rfl, hz, rfl⟩
      go_wp2
      go_ret2
      rw [HVal.out] at hz
      exact ⟨_, _, _, rfl, hz, hbel⟩
end Go.Proofs.YtnknidfpkmnncaaGreat
/- natural.Mul. -/
namespace Go.Proofs.YtnknidfpkmnncaaGreat
open Go.RowKit

theorem mul32_to (x y hi lo : Nat) (w : World) (hx : x < 4294967296) (hy : y < 4294967296) (h1 : x * y / 4294967296 = hi) (h2 : x * y % 4294967296 = lo) :
    Calls Tryz.prog 86 #[.int .u32 x, .int .u32 y] w fun e w' => e = .returned (.tuple #[.int .u32 hi, .int .u32 lo]) ∧ w = w' := by
  subst h1 h2
  exact mul32_any x y w hx hy
theorem add32_to (x y c s d : Nat) (w : World) (hx : x < 4294967296) (hy : y < 4294967296) (hc : c ≤ 1) (h1 : (x + y + c) % 4294967296 = s) (h2 : (x + y + c) / 4294967296 = d) :
    Calls Tryz.prog 84 #[.int .u32 x, .int .u32 y, .int .u32 c] w fun e w' => e = .returned (.tuple #[.int .u32 s, .int .u32 d]) ∧ w = w' := by
  subst h1 h2
  exact add32_any x y c w hx hy hc

/-- The state of a product's loops. -/
structure MulRel (w : World) (n : Nat) (zs : List Nat) (wr : World) : Prop where
  made : Made wr w.heap.size zs
  len : zs.length = n
  lt : Lt32 zs
  below : Below w.heap.size w wr
theorem MulRel.start (w : World) (n : Nat) : MulRel w n (List.replicate n 0) (w.alloc (Obj.cells (zeroRow n) 83)) where
  made := Made.new w n
  len := by simp
  lt := lt32_replicate _
  below := (Below.refl _ _).alloc (Nat.le_refl _) _
theorem MulRel.step {w wr : World} {n : Nat} {zs : List Nat} (h : MulRel w n zs wr) (k s : Nat) (hs : s < 4294967296) :
    MulRel w n (zs.set k s) (wr.setCell ⟨w.heap.size, k, none⟩ (.int .u32 s)) where
  made := h.made.set_ k s
  len := by simpa using h.len
  lt := h.lt.set k hs
  below := h.below.setCell (by simp) _

set_option maxRecDepth 100000 in
set_option maxHeartbeats 2000000 in
theorem mul_any (B : Nat) (A A2 : Option Addr) (n c n2 c2 : Nat) (xs ys : List Nat) (w : World) (hx : Dig B w A n c xs) (hy : Dig B w A2 n2 c2 ys) (hn : n ≤ 1099511627776) (hn2 : n2 ≤ 1099511627776) :
    Calls Tryz.prog 66 #[.slice A n c, .slice A2 n2 c2] w (NatP B (val xs * val ys) w) := by
  have hxl := digs_len_of hx
  have hyl := digs_len_of hy
  go_enter Tryz.func66, Tryz.ntmps66
  go_wp2_with fail
  refine (trim_any B _ _ _ _ _ hx).mono ?_
  rintro e w' ⟨A', n', c', rfl, h', rfl⟩
  have hbd := h'.bd
  have hcap := h'.cap
  go_wp2_with fail
  refine (trim_any B _ _ _ _ _ hy).mono ?_
  rintro e w' ⟨A'2, n'2, c'2, rfl, h'2, rfl⟩
  have hbd2 := h'2.bd
  have hcap2 := h'2.cap
  have hn' : n' ≤ 1099511627776 := by have := h'.len; omega
  have hn2' : n'2 ≤ 1099511627776 := by have := h'2.len; omega
  clear hx hy hxl hyl
  generalize val xs = p at *
  generalize val ys = q at *
  rcases Nat.eq_zero_or_pos n' with h0 | h0
  · have hp : p = 0 := digs_eq_nil.1 (List.eq_nil_of_length_eq_zero (by rw [h'.len]; exact h0))
    have HP := Lib.hid hp
    clear hp
    have h0' : ((n' : Int) == 0) = true := by rw [beq_iff_eq]; omega
    clear h0
    go_wp2
    go_ret
    rw [HP.out, Nat.zero_mul]
    exact ⟨_, _, _, rfl, by rw [digs_zero]; exact Dig.nil, Below.refl _ _⟩
  · rcases Nat.eq_zero_or_pos n'2 with h02 | h02
    · have hp : q = 0 := digs_eq_nil.1 (List.eq_nil_of_length_eq_zero (by rw [h'2.len]; exact h02))
      have HP := Lib.hid hp
      clear hp
      have h0' : ((n' : Int) == 0) = false := by rw [beq_eq_false_iff_ne]; omega
      have h02' : ((n'2 : Int) == 0) = true := by rw [beq_iff_eq]; omega
      clear h0 h02
      go_wp2
      go_ret
      rw [HP.out, Nat.mul_zero]
      exact ⟨_, _, _, rfl, by rw [digs_zero]; exact Dig.nil, Below.refl _ _⟩
    · have h0' : ((n' : Int) == 0) = false := by rw [beq_eq_false_iff_ne]; omega
      have h02' : ((n'2 : Int) == 0) = false := by rw [beq_eq_false_iff_ne]; omega
      have hmk := fun W => run_make_digits (n' + n'2) ((n' : Int) + n'2) (by omega) (by omega) W
      go_wp2
      clear hmk h0' h02'
      go_loopw [35] (fun i wr => ∃ (k : Nat) (zs : List Nat), k ≤ n' ∧ i = .int .i64 k ∧ MulRel w (n' + n'2) zs wr ∧ Hid (val zs = val ((digs p).take k) * q) ∧ Hid (∀ j, k + n'2 ≤ j → dg zs j = 0))
        (fun i _ => n' - (intOf i).toNat)
      case atStart => exact ⟨0, _, Nat.zero_le _, rfl, MulRel.start w _, Lib.hid (by rw [val_replicate]; simp [val_nil]), Lib.hid (fun j _ => by rw [dg_replicate]; split <;> rfl)⟩
      case round =>
        obtain ⟨i, zs, hi, rfl, hR, HV, HZ⟩ := hrel
        by_cases hlt : i < n'
        · obtain ⟨ad, rfl, hca⟩ := h'.cell i hlt
          have hca' := (hR.below.cell (World.block_lt_of_cell? w _ hca)).trans hca
          have hdx := h'.dig i
          by_cases hz : dg (digs p) i = 0
          · have HV2 := Lib.hid (show val zs = val ((digs p).take (i + 1)) * q by rw [HV.out, val_take_succ_any, hz]; simp)
            have hz' : (((dg (digs p) i : Nat) : Int) == 0) = true := by rw [hz]; rfl
            clear hz hca HV
            go_wp2
            go_roundw
            case rel => exact ⟨i + 1, _, by omega, by go_num, hR, HV2, Lib.hid (fun j hj => HZ.out j (by omega))⟩
            case measure => simp [intOf]; omega
          · have hz' : (((dg (digs p) i : Nat) : Int) == 0) = false := by rw [beq_eq_false_iff_ne]; omega
            clear hz hca
            go_wp2
            simp only [Nat.add_sub_cancel_left]
            have hlen := hR.len
            go_loopw [8, 51] (fun cv kv wq => ∃ (k cy : Nat) (zq : List Nat), k ≤ n'2 ∧ kv = .int .i64 k ∧ cv = .int .u32 cy ∧ cy < 4294967296 ∧ MulRel w (n' + n'2) zq wq ∧
                Hid (val zq + bp (i + k) * cy = val zs + bp i * (dg (digs p) i * val ((digs q).take k))) ∧ Hid (∀ j, i + k ≤ j → dg zq j = dg zs j))
              (fun _ kv _ => n'2 - (intOf kv).toNat)
            case atStart => exact ⟨0, 0, zs, Nat.zero_le _, rfl, rfl, by omega, hR, Lib.hid (by simp [val_nil]), Lib.hid (fun _ _ => rfl)⟩
            case round =>
              obtain ⟨k, cy, zq, hk, rfl, rfl, hcy, hQ, HQ, HE⟩ := hrel
              by_cases hlt2 : k < n'2
              · obtain ⟨ad2, rfl, hcb⟩ := h'2.cell k hlt2
                have hcb' := (hQ.below.cell (World.block_lt_of_cell? w _ hcb)).trans hcb
                have hdy := h'2.dig k
                have hik : i + k < zq.length := by rw [hQ.len]; omega
                have hout := hQ.made.cell hik
                have houtf := hQ.made.frozen (i + k)
                have hdd := hQ.lt (i + k)
                obtain ⟨hh, lo, s1, c1, s2, c3, ⟨e1, e2, e3, e4, e5, e6⟩, b1, b2, b3, b4, b5, b6, he⟩ := mul_digits (dg (digs p) i) (dg (digs q) k) (dg zq (i + k)) cy hdx hdy hdd hcy
                have HN := Lib.hid (mul_round hik HQ.out he)
                have HR2 := hQ.step (i + k) s2 b3
                have HE2 := Lib.hid (show ∀ j, i + (k + 1) ≤ j → dg (zq.set (i + k) s2) j = dg zs j from fun j hj => by rw [dg_set, if_neg (by omega)]; exact HE.out j (by omega))
                have hm1 := fun W => mul32_to _ _ hh lo W hdx hdy e1 e2
                have hm2 := fun W => add32_to lo (dg zq (i + k)) 0 s1 c1 W b1 hdd (by omega) e3 e4
                have hm3 := fun W => add32_to s1 cy 0 s2 c3 W b2 hcy (by omega) e5 e6
                have HM1 := Lib.hid hm1
                have HM2 := Lib.hid hm2
                have HM3 := Lib.hid hm3
                clear hm1 hm2 hm3 e1 e2 e3 e4 e5 e6 he HQ HE hik hcb hR
                go_wp2_with fail
                refine (HM1.out _).mono ?_
                rintro e w' ⟨rfl, rfl⟩
                go_wp2_with fail
                refine (HM2.out _).mono ?_
                rintro e w' ⟨rfl, rfl⟩
                go_wp2_with fail
                refine (HM3.out _).mono ?_
                rintro e w' ⟨rfl, rfl⟩
                clear HM1 HM2 HM3
                go_wp2
                go_roundw
                case rel => exact ⟨k + 1, hh + c1 + c3, _, by omega, by go_num, by go_num, b6, HR2, HN, HE2⟩
                case measure => simp [intOf]; omega
              · have hk' : k = n'2 := by omega
                subst hk'
                have hik : i + k < zq.length := by rw [hQ.len]; omega
                have hout := hQ.made.cell hik
                have houtf := hQ.made.frozen (i + k)
                have hval : val (zq.set (i + k) cy) = val ((digs p).take (i + 1)) * q := by
                  have h1 := val_set zq (i + k) cy hik
                  rw [HE.out (i + k) (Nat.le_refl _), HZ.out (i + k) (Nat.le_refl _)] at h1
                  have h2 := HQ.out
                  rw [val_take_all (digs q) k (by rw [h'2.len]; exact Nat.le_refl _), val_digs q, HV.out] at h2
                  rw [val_take_succ_any, Nat.add_mul, Nat.mul_assoc, ← h2]
                  omega
                have HVal := Lib.hid hval
                have HR2 := hQ.step (i + k) cy hcy
                have HZ2 := Lib.hid (show ∀ j, (i + 1) + k ≤ j → dg (zq.set (i + k) cy) j = 0 from fun j hj => by rw [dg_set, if_neg (by omega), HE.out j (by omega)]; exact HZ.out j (by omega))
                clear hval HQ HE HV HZ hik hR
                go_wp2
                go_roundw
                case rel => exact ⟨i + 1, _, by omega, by go_num, HR2, HVal, HZ2⟩
                case measure => simp [intOf]; omega
        · have hi' : i = n' := by omega
          subst hi'
          have hval : val zs = p * q := by rw [HV.out, val_take_all (digs p) i (by rw [h'.len]; exact Nat.le_refl _), val_digs p]
          have HVal := Lib.hid hval
          have hd := hR.made.dig hR.lt (by rw [hR.len]; omega) B
          rw [hR.len] at hd
          have hbel := hR.below
          clear hval HV HZ hR
          go_wp2_with fail
          refine (trim_any B _ _ _ _ _ hd).mono ?_
          rintro e w' ⟨Az, nz, cz, rfl, hz, rfl⟩
          go_wp2
          go_ret
          rw [HVal.out] at hz
          exact ⟨_, _, _, rfl, hz, hbel⟩
end Go.Proofs.YtnknidfpkmnncaaGreat
/- integer.made, From, Normal, Of, Sign, Neg. -/
namespace Go.Proofs.YtnknidfpkmnncaaGreat
open Go.RowKit

/-- The integer of a sign and digits. -/
def iv (neg : Bool) (m : Nat) : Int := if neg then -(m : Int) else m
/-- What comes back reads as the integer z in canonical form; what existed is as it was. -/
def IntP (B : Nat) (z : Int) (w : World) (e : Ending) (w' : World) : Prop :=
  ∃ A' n' c', e = .returned (.agg #[.bool (decide (z < 0)), .slice A' n' c']) ∧ Dig B w' A' n' c' (digs z.natAbs) ∧ Below w.heap.size w w'
theorem iv_natAbs (neg : Bool) (m : Nat) : (iv neg m).natAbs = m := by unfold iv; split <;> omega
theorem iv_neg (neg : Bool) (m : Nat) : decide (iv neg m < 0) = (neg && decide (0 < m)) := by
  unfold iv
  cases neg
  · simp
  · simp

theorem made_any (B : Nat) (neg : Bool) (A : Option Addr) (n c m : Nat) (w : World) (h : Dig B w A n c (digs m)) :
    Calls Tryz.prog 60 #[.bool neg, .slice A n c] w (IntP B (iv neg m) w) := by
  have hn : (neg && decide ((0 : Int) < n)) = decide (iv neg m < 0) := by
    rw [iv_neg]
    congr 1
    have hl := h.len
    rw [decide_eq_decide]
    constructor
    · intro h1
      rcases Nat.eq_zero_or_pos m with h2 | h2
      · subst h2; rw [digs_zero] at hl; simp at hl; omega
      · exact h2
    · intro h1
      rcases Nat.eq_zero_or_pos n with h2 | h2
      · have := digs_eq_nil.1 (List.eq_nil_of_length_eq_zero (hl.trans h2)); omega
      · omega
  have HN := Lib.hid hn
  clear hn
  cases neg
  · go_enter Tryz.func60, Tryz.ntmps60
    go_wp2
    refine bodyPost_ret (v := .agg #[.bool false, .slice A n c]) (by simp [results, Tryz.results60, go_sem]) rfl ?_
    refine ⟨A, n, c, by rw [← HN.out]; rfl, ?_, ?_⟩
    · rw [iv_natAbs]
      exact h.below ((Below.refl _ _).alloc (Nat.le_refl _) _) (Nat.le_refl _)
    · exact (Below.refl _ _).alloc (Nat.le_refl _) _
  · go_enter Tryz.func60, Tryz.ntmps60
    go_wp2
    refine bodyPost_ret (v := .agg #[.bool (decide (0 < n)), .slice A n c]) (by simp [results, Tryz.results60, go_sem]) rfl ?_
    refine ⟨A, n, c, by rw [← HN.out]; simp, ?_, ?_⟩
    · rw [iv_natAbs]
      exact h.below ((Below.refl _ _).alloc (Nat.le_refl _) _) (Nat.le_refl _)
    · exact (Below.refl _ _).alloc (Nat.le_refl _) _
end Go.Proofs.YtnknidfpkmnncaaGreat
/- integer.From, Normal, Neg, Of. -/
namespace Go.Proofs.YtnknidfpkmnncaaGreat
open Go.RowKit

theorem bcell {W w1 : World} (hb : Below W.heap.size W w1) : (∀ b o, b < W.heap.size → w1.cell? ⟨b, o, none⟩ = W.cell? ⟨b, o, none⟩) ∧ (∀ b o, b < W.heap.size → w1.frozen? ⟨b, o, none⟩ = W.frozen? ⟨b, o, none⟩) :=
  ⟨fun b o h => hb.cell (p := ⟨b, o, none⟩) h, fun b o h => hb.frozen (p := ⟨b, o, none⟩) h⟩

/-- A result in its own block: two stores keep digits readable. -/
theorem Dig.result {B : Nat} {w : World} {A : Option Addr} {n c : Nat} {xs : List Nat} (h : Dig B w A n c xs) {g : Nat} (hB : B ≤ g) (ht : Ty w g 53) (u v : Value) :
    Dig B ((w.setCell ⟨g, 0, none⟩ u).setCell ⟨g, 1, none⟩ v) A n c xs :=
  (h.setCell (p := ⟨g, 0, none⟩) hB ht (by decide) u).setCell (p := ⟨g, 1, none⟩) hB (ht.setCell _ _) (by decide) v

set_option maxHeartbeats 1000000 in
theorem from_any (B : Nat) (neg : Bool) (A : Option Addr) (n c : Nat) (xs : List Nat) (w : World) (hB : B ≤ w.heap.size) (h : Dig B w A n c xs) (hn : n ≤ 1099511627776) :
    Calls Tryz.prog 58 #[.bool neg, .slice A n c] w (IntP B (iv neg (val xs)) w) := by
  have hbw : Below w.heap.size w (w.alloc (.cells #[.bool false, .slice none 0 0] 53)) := (Below.refl _ _).alloc (Nat.le_refl _) _
  have hT := Ty.new w #[.bool false, .slice none 0 0] 53 (0, 0)
  go_enter Tryz.func58, Tryz.ntmps58
  go_wp2_with fail
  refine (normal_any B _ _ _ _ _ (h.below hbw (Nat.le_refl _)) hn).mono ?_
  rintro e w1 ⟨A1, n1, c1, rfl, h1, hb1⟩
  obtain ⟨hc1, hf1⟩ := bcell hb1
  have hz1 : w.heap.size < w1.heap.size := by have := hb1.size; simp at this; omega
  go_wp2_with fail
  refine (made_any B _ _ _ _ _ _ h1).mono ?_
  rintro e w2 ⟨A2, n2, c2, rfl, h2, hb2⟩
  obtain ⟨hc2, hf2⟩ := bcell hb2
  have hz2 : w.heap.size < w2.heap.size := by have := hb2.size; omega
  go_wp2
  refine bodyPost_ret (v := .agg #[.bool (decide (iv neg (val xs) < 0)), .slice A2 n2 c2]) (by simp [results, Tryz.results58, go_sem, hc2, hc1, hz1]) rfl ?_
  have hT2 := (hT.below hb1 (Nat.le_refl _)).below hb2 (Nat.le_refl _)
  refine ⟨A2, n2, c2, rfl, h2.result hB hT2 _ _, ?_⟩
  exact (((hbw.trans (hb1.mono (by simp))).trans (hb2.mono (by omega))).setCell (by simp) _).setCell (by simp) _

/-- The two blocks that a function of one Int lays at its start: its argument's box and its result. -/
theorem below_box2 (w : World) (o o' : Obj) : Below w.heap.size w ((w.alloc o).alloc o') := ((Below.refl _ _).alloc (Nat.le_refl _) _).alloc (by simp) _

set_option maxHeartbeats 1000000 in
theorem inormal_any (B : Nat) (neg : Bool) (A : Option Addr) (n c : Nat) (xs : List Nat) (w : World) (hB : B ≤ w.heap.size) (h : Dig B w A n c xs) (hn : n ≤ 1099511627776) :
    Calls Tryz.prog 27 #[.agg #[.bool neg, .slice A n c]] w (IntP B (iv neg (val xs)) w) := by
  have hbw := below_box2 w (.cells #[.bool neg, .slice A n c] 53) (.cells #[.bool false, .slice none 0 0] 53)
  have hT := Ty.new (w.alloc (.cells #[.bool neg, .slice A n c] 53)) #[.bool false, .slice none 0 0] 53 (0, 0)
  go_enter Tryz.func27, Tryz.ntmps27
  go_wp2_with fail
  refine (from_any B neg _ _ _ _ _ (by simp; omega) (h.below hbw (Nat.le_refl _)) hn).mono ?_
  rintro e w1 ⟨A1, n1, c1, rfl, h1, hb1⟩
  obtain ⟨hc1, hf1⟩ := bcell hb1
  have hz1 : w.heap.size + 1 < w1.heap.size := by have := hb1.size; simp at this; omega
  go_wp2
  refine bodyPost_ret (v := .agg #[.bool (decide (iv neg (val xs) < 0)), .slice A1 n1 c1]) (by simp [results, Tryz.results27, go_sem, hc1]) rfl ?_
  have hT2 := hT.below hb1 (Nat.le_refl _)
  simp only [World.size_alloc] at hT2
  refine ⟨A1, n1, c1, rfl, h1.result (by omega) hT2 _ _, ?_⟩
  exact ((hbw.trans (hb1.mono (by simp; omega))).setCell (by simp) _).setCell (by simp) _

set_option maxHeartbeats 1000000 in
theorem ineg_any (B : Nat) (neg : Bool) (A : Option Addr) (n c : Nat) (xs : List Nat) (w : World) (hB : B ≤ w.heap.size) (h : Dig B w A n c xs) (hn : n ≤ 1099511627776) :
    Calls Tryz.prog 54 #[.agg #[.bool neg, .slice A n c]] w (IntP B (-(iv neg (val xs))) w) := by
  have hbw := below_box2 w (.cells #[.bool neg, .slice A n c] 53) (.cells #[.bool false, .slice none 0 0] 53)
  have hT := Ty.new (w.alloc (.cells #[.bool neg, .slice A n c] 53)) #[.bool false, .slice none 0 0] 53 (0, 0)
  have HE := Lib.hid (show iv (!neg) (val xs) = -(iv neg (val xs)) by cases neg <;> simp [iv])
  go_enter Tryz.func54, Tryz.ntmps54
  go_wp2_with fail
  refine (from_any B (!neg) _ _ _ _ _ (by simp; omega) (h.below hbw (Nat.le_refl _)) hn).mono ?_
  rw [HE.out]
  generalize -(iv neg (val xs)) = z at *
  clear HE
  rintro e w1 ⟨A1, n1, c1, rfl, h1, hb1⟩
  obtain ⟨hc1, hf1⟩ := bcell hb1
  have hz1 : w.heap.size + 1 < w1.heap.size := by have := hb1.size; simp at this; omega
  go_wp2
  refine bodyPost_ret (v := .agg #[.bool (decide (z < 0)), .slice A1 n1 c1]) (by simp [results, Tryz.results54, go_sem, hc1]) rfl ?_
  have hT2 := hT.below hb1 (Nat.le_refl _)
  simp only [World.size_alloc] at hT2
  refine ⟨A1, n1, c1, rfl, h1.result (by omega) hT2 _ _, ?_⟩
  exact ((hbw.trans (hb1.mono (by simp; omega))).setCell (by simp) _).setCell (by simp) _

set_option maxHeartbeats 1000000 in
theorem iof_pos (B : Nat) (n : Int) (w : World) (hB : B ≤ w.heap.size) (h0 : 0 ≤ n) (h : n ≤ 9223372036854775807) :
    Calls Tryz.prog 35 #[.int .i64 n] w (IntP B n w) := by
  obtain ⟨m, rfl⟩ := Int.eq_ofNat_of_zero_le h0
  have hbw : Below w.heap.size w (w.alloc (.cells #[.bool false, .slice none 0 0] 53)) := (Below.refl _ _).alloc (Nat.le_refl _) _
  have hT := Ty.new w #[.bool false, .slice none 0 0] 53 (0, 0)
  have HE := Lib.hid (show iv false m = (m : Int) from rfl)
  go_enter Tryz.func35, Tryz.ntmps35
  go_wp2_with fail
  refine (of_any B m _ (by omega)).mono ?_
  rintro e w1 ⟨A1, n1, c1, rfl, h1, hb1⟩
  obtain ⟨hc1, hf1⟩ := bcell hb1
  have hz1 : w.heap.size < w1.heap.size := by have := hb1.size; simp at this; omega
  go_wp2_with fail
  refine (made_any B _ _ _ _ _ _ h1).mono ?_
  rw [HE.out]
  rintro e w2 ⟨A2, n2, c2, rfl, h2, hb2⟩
  obtain ⟨hc2, hf2⟩ := bcell hb2
  have hz2 : w.heap.size < w2.heap.size := by have := hb2.size; omega
  go_wp2
  refine bodyPost_ret (v := .agg #[.bool (decide ((m : Int) < 0)), .slice A2 n2 c2]) (by simp [results, Tryz.results35, go_sem, hc2, hc1, hz1]) rfl ?_
  have hT2 := (hT.below hb1 (Nat.le_refl _)).below hb2 (Nat.le_refl _)
  refine ⟨A2, n2, c2, rfl, h2.result hB hT2 _ _, ?_⟩
  exact (((hbw.trans (hb1.mono (by simp))).trans (hb2.mono (by omega))).setCell (by simp) _).setCell (by simp) _
set_option maxHeartbeats 1000000 in
theorem iof_neg (B : Nat) (n : Int) (w : World) (hB : B ≤ w.heap.size) (h0 : n < 0) (h : -9223372036854775808 ≤ n) :
    Calls Tryz.prog 35 #[.int .i64 n] w (IntP B n w) := by
  obtain ⟨m, hm⟩ : ∃ m : Nat, -n = m := ⟨(-n).toNat, by omega⟩
  have hbw : Below w.heap.size w (w.alloc (.cells #[.bool false, .slice none 0 0] 53)) := (Below.refl _ _).alloc (Nat.le_refl _) _
  have hT := Ty.new w #[.bool false, .slice none 0 0] 53 (0, 0)
  have HE := Lib.hid (show iv true m = n by unfold iv; simp; omega)
  have HW := Lib.hid (show IntKind.u64.wrap (-IntKind.u64.wrap n) = (m : Int) by simp [IntKind.wrap, IntKind.bits, IntKind.signed]; omega)
  have hm0 : m < 18446744073709551616 := by omega
  clear hm
  go_enter Tryz.func35, Tryz.ntmps35
  go_wp2_with fail
  rw [HW.out]
  refine (of_any B m _ hm0).mono ?_
  rintro e w1 ⟨A1, n1, c1, rfl, h1, hb1⟩
  obtain ⟨hc1, hf1⟩ := bcell hb1
  have hz1 : w.heap.size < w1.heap.size := by have := hb1.size; simp at this; omega
  go_wp2_with fail
  refine (made_any B _ _ _ _ _ _ h1).mono ?_
  rw [HE.out]
  rintro e w2 ⟨A2, n2, c2, rfl, h2, hb2⟩
  obtain ⟨hc2, hf2⟩ := bcell hb2
  have hz2 : w.heap.size < w2.heap.size := by have := hb2.size; omega
  go_wp2
  refine bodyPost_ret (v := .agg #[.bool (decide (n < 0)), .slice A2 n2 c2]) (by simp [results, Tryz.results35, go_sem, hc2, hc1, hz1, h0]) rfl ?_
  have hT2 := (hT.below hb1 (Nat.le_refl _)).below hb2 (Nat.le_refl _)
  refine ⟨A2, n2, c2, rfl, h2.result hB hT2 _ _, ?_⟩
  exact (((hbw.trans (hb1.mono (by simp))).trans (hb2.mono (by omega))).setCell (by simp) _).setCell (by simp) _
theorem iof_any (B : Nat) (n : Int) (w : World) (hB : B ≤ w.heap.size) (h0 : -9223372036854775808 ≤ n) (h : n ≤ 9223372036854775807) :
    Calls Tryz.prog 35 #[.int .i64 n] w (IntP B n w) := by
  rcases Int.lt_or_le n 0 with h1 | h1
  · exact iof_neg B n w hB h1 h0
  · exact iof_pos B n w hB h1 h
end Go.Proofs.YtnknidfpkmnncaaGreat
/- integer.Sign, Cmp. -/
namespace Go.Proofs.YtnknidfpkmnncaaGreat
open Go.RowKit

/-- What comes back is v; what existed is as it was. -/
def ValP (v : Value) (w : World) (e : Ending) (w' : World) : Prop := e = .returned v ∧ Below w.heap.size w w'

theorem isign_zero (B : Nat) (neg : Bool) (A : Option Addr) (n c : Nat) (xs : List Nat) (w : World) (h : Dig B w A n c xs) (hz : val xs = 0) :
    Calls Tryz.prog 34 #[.agg #[.bool neg, .slice A n c]] w (ValP (.int .i64 0) w) := by
  have hbw : Below w.heap.size w (w.alloc (.cells #[.bool neg, .slice A n c] 53)) := (Below.refl _ _).alloc (Nat.le_refl _) _
  have hq := isZero_any B _ _ _ _ _ (h.below hbw (Nat.le_refl _))
  rw [decide_eq_true hz] at hq
  have HQ := Lib.hid hq
  clear hq hz
  go_enter Tryz.func34, Tryz.ntmps34
  go_wp2_with fail
  refine HQ.out.mono ?_
  rintro e w1 ⟨rfl, rfl⟩
  go_wp2
  go_ret
  exact ⟨rfl, hbw⟩
theorem isign_neg (B : Nat) (A : Option Addr) (n c : Nat) (xs : List Nat) (w : World) (h : Dig B w A n c xs) (hz : val xs ≠ 0) :
    Calls Tryz.prog 34 #[.agg #[.bool true, .slice A n c]] w (ValP (.int .i64 (-1)) w) := by
  have hbw : Below w.heap.size w (w.alloc (.cells #[.bool true, .slice A n c] 53)) := (Below.refl _ _).alloc (Nat.le_refl _) _
  have hq := isZero_any B _ _ _ _ _ (h.below hbw (Nat.le_refl _))
  rw [decide_eq_false hz] at hq
  have HQ := Lib.hid hq
  clear hq hz
  go_enter Tryz.func34, Tryz.ntmps34
  go_wp2_with fail
  refine HQ.out.mono ?_
  rintro e w1 ⟨rfl, rfl⟩
  go_wp2
  go_ret
  exact ⟨rfl, hbw⟩
theorem isign_pos (B : Nat) (A : Option Addr) (n c : Nat) (xs : List Nat) (w : World) (h : Dig B w A n c xs) (hz : val xs ≠ 0) :
    Calls Tryz.prog 34 #[.agg #[.bool false, .slice A n c]] w (ValP (.int .i64 1) w) := by
  have hbw : Below w.heap.size w (w.alloc (.cells #[.bool false, .slice A n c] 53)) := (Below.refl _ _).alloc (Nat.le_refl _) _
  have hq := isZero_any B _ _ _ _ _ (h.below hbw (Nat.le_refl _))
  rw [decide_eq_false hz] at hq
  have HQ := Lib.hid hq
  clear hq hz
  go_enter Tryz.func34, Tryz.ntmps34
  go_wp2_with fail
  refine HQ.out.mono ?_
  rintro e w1 ⟨rfl, rfl⟩
  go_wp2
  go_ret
  exact ⟨rfl, hbw⟩

theorem isign_any (B : Nat) (neg : Bool) (A : Option Addr) (n c : Nat) (xs : List Nat) (w : World) (h : Dig B w A n c xs) :
    Calls Tryz.prog 34 #[.agg #[.bool neg, .slice A n c]] w (ValP (.int .i64 (iv neg (val xs)).sign) w) := by
  by_cases hz : val xs = 0
  · have e : (iv neg (val xs)).sign = 0 := by rw [hz]; cases neg <;> rfl
    rw [e]
    exact isign_zero B neg A n c xs w h hz
  · cases neg
    · have e : (iv false (val xs)).sign = 1 := Int.sign_eq_one_of_pos (by unfold iv; simp; omega)
      rw [e]
      exact isign_pos B A n c xs w h hz
    · have e : (iv true (val xs)).sign = -1 := Int.sign_eq_neg_one_of_neg (by unfold iv; simp; omega)
      rw [e]
      exact isign_neg B A n c xs w h hz

/-- -1, 0 or 1. -/
def cmpI (a b : Int) : Int := if a < b then -1 else if a = b then 0 else 1

theorem cmpI_lt {a b : Int} (h : a.sign < b.sign) : cmpI a b = -1 := by
  unfold cmpI
  rw [if_pos]
  rcases Int.lt_trichotomy a 0 with h1 | h1 | h1 <;> rcases Int.lt_trichotomy b 0 with h2 | h2 | h2 <;>
    simp_all [Int.sign_eq_neg_one_of_neg, Int.sign_eq_one_of_pos] <;> omega
theorem cmpI_gt {a b : Int} (h : b.sign < a.sign) : cmpI a b = 1 := by
  have : b < a := by
    rcases Int.lt_trichotomy a 0 with h1 | h1 | h1 <;> rcases Int.lt_trichotomy b 0 with h2 | h2 | h2 <;>
      simp_all [Int.sign_eq_neg_one_of_neg, Int.sign_eq_one_of_pos] <;> omega
  unfold cmpI
  rw [if_neg (by omega), if_neg (by omega)]
theorem cmpI_eq_neg {neg neg2 : Bool} {p q : Nat} (h : (iv neg p).sign = (iv neg2 q).sign) (h0 : (iv neg p).sign < 0) : cmpI (iv neg p) (iv neg2 q) = cmpN q p := by
  have h1 : iv neg p < 0 := Int.sign_neg_iff.1 h0
  have h2 : iv neg2 q < 0 := Int.sign_neg_iff.1 (by rw [← h]; exact h0)
  unfold cmpI cmpN iv at *
  cases neg <;> cases neg2 <;> simp at * <;> (repeat' split) <;> omega
theorem cmpI_eq_pos {neg neg2 : Bool} {p q : Nat} (h : (iv neg p).sign = (iv neg2 q).sign) (h0 : ¬ (iv neg p).sign < 0) : cmpI (iv neg p) (iv neg2 q) = cmpN p q := by
  have h1 : ¬ iv neg p < 0 := fun h3 => h0 (Int.sign_neg_iff.2 h3)
  have h2 : ¬ iv neg2 q < 0 := fun h3 => h0 (by rw [h]; exact Int.sign_neg_iff.2 h3)
  unfold cmpI cmpN iv at *
  cases neg <;> cases neg2 <;> simp at * <;> (repeat' split) <;> omega
theorem cmpK0 (w : World) (neg neg2 : Bool) (A A2 : Option Addr) (n c n2 c2 : Nat) :
    ((((w.alloc (.cells #[.bool neg, .slice A n c] 53)).alloc (.cells #[.bool neg2, .slice A2 n2 c2] 53)).drew).cell? ⟨w.heap.size, 0, none⟩ = some (.bool neg)) ∧
    ((((w.alloc (.cells #[.bool neg, .slice A n c] 53)).alloc (.cells #[.bool neg2, .slice A2 n2 c2] 53)).drew).cell? ⟨w.heap.size, 1, none⟩ = some (.slice A n c)) ∧
    ((((w.alloc (.cells #[.bool neg, .slice A n c] 53)).alloc (.cells #[.bool neg2, .slice A2 n2 c2] 53)).drew).cell? ⟨w.heap.size + 1, 0, none⟩ = some (.bool neg2)) ∧
    ((((w.alloc (.cells #[.bool neg, .slice A n c] 53)).alloc (.cells #[.bool neg2, .slice A2 n2 c2] 53)).drew).cell? ⟨w.heap.size + 1, 1, none⟩ = some (.slice A2 n2 c2)) := by
  refine ⟨?_, ?_, ?_, ?_⟩ <;> go_simp
theorem cmpK {W w1 : World} {H : Nat} {a b c d : Value} (hb : Below W.heap.size W w1)
    (h : W.cell? ⟨H, 0, none⟩ = some a ∧ W.cell? ⟨H, 1, none⟩ = some b ∧ W.cell? ⟨H + 1, 0, none⟩ = some c ∧ W.cell? ⟨H + 1, 1, none⟩ = some d) (hz : H + 1 < W.heap.size) :
    w1.cell? ⟨H, 0, none⟩ = some a ∧ w1.cell? ⟨H, 1, none⟩ = some b ∧ w1.cell? ⟨H + 1, 0, none⟩ = some c ∧ w1.cell? ⟨H + 1, 1, none⟩ = some d := by
  obtain ⟨hc, _⟩ := bcell hb
  rw [hc _ _ (by omega), hc _ _ (by omega), hc _ _ hz, hc _ _ hz]
  exact h

set_option maxRecDepth 100000 in
set_option maxHeartbeats 2000000 in
theorem icmp_any (B : Nat) (neg neg2 : Bool) (A A2 : Option Addr) (n c n2 c2 : Nat) (xs ys : List Nat) (w : World) (hx : Dig B w A n c xs) (hy : Dig B w A2 n2 c2 ys) :
    Calls Tryz.prog 51 #[.agg #[.bool neg, .slice A n c], .agg #[.bool neg2, .slice A2 n2 c2]] w (ValP (.int .i64 (cmpI (iv neg (val xs)) (iv neg2 (val ys)))) w) := by
  have hbw := below_box2 w (.cells #[.bool neg, .slice A n c] 53) (.cells #[.bool neg2, .slice A2 n2 c2] 53)
  have hx1 := hx.below hbw (Nat.le_refl _)
  have hy1 := hy.below hbw (Nat.le_refl _)
  obtain ⟨s, hs⟩ : ∃ s, (iv neg (val xs)).sign = s := ⟨_, rfl⟩
  obtain ⟨t, ht⟩ : ∃ t, (iv neg2 (val ys)).sign = t := ⟨_, rfl⟩
  have hx2 := hx1.drew
  have hy2 := hy1.drew
  have HS := Lib.hid hs
  have HT := Lib.hid ht
  clear hs ht
  go_enter Tryz.func51, Tryz.ntmps51
  go_wp2_with fail
  go_region_held3 (fun w' => w'.cell? ⟨w.heap.size, 0, none⟩ = some (.bool neg) ∧ w'.cell? ⟨w.heap.size, 1, none⟩ = some (.slice A n c) ∧ w'.cell? ⟨w.heap.size + 1, 0, none⟩ = some (.bool neg2) ∧ w'.cell? ⟨w.heap.size + 1, 1, none⟩ = some (.slice A2 n2 c2)) (first | go_keep | exact K1 | exact K2)
    (first
      | (go_at_call 34; ((with_reducible refine (isign_any B neg A n c xs _ hx2).mono ?_); rintro e w1 ⟨rfl, hb1⟩; obtain ⟨hc1, hf1⟩ := bcell hb1; have hz1 : w.heap.size + 1 < w1.heap.size := (by have := hb1.size; simp at this; omega); have K1 := cmpK hb1 (cmpK0 w neg neg2 A A2 n c n2 c2) (by simp)))
      | (go_at_call 34; ((with_reducible refine (isign_any B neg2 A2 n2 c2 ys _ (hy2.below hb1 (Nat.le_refl _))).mono ?_); rintro e w2 ⟨rfl, hb2⟩; obtain ⟨hc2, hf2⟩ := bcell hb2; have hz2 : w.heap.size + 1 < w2.heap.size := (by have := hb2.size; omega); have K2 := cmpK hb2 K1 hz1)))
  obtain ⟨ka, kb, kc, kd⟩ := K2
  have hx3 := (hx2.below hb1 (Nat.le_refl _)).below hb2 (Nat.le_refl _)
  have hy3 := (hy2.below hb1 (Nat.le_refl _)).below hb2 (Nat.le_refl _)
  have hbel : Below w.heap.size w w2 := ((hbw.drew).trans (hb1.mono (by simp; omega))).trans (hb2.mono (by omega))
  have HC1 := Lib.hid (cmp_any B _ _ _ _ _ _ _ _ _ hx3 hy3)
  have HC2 := Lib.hid (cmp_any B _ _ _ _ _ _ _ _ _ hy3 hx3)
  have HW := Lib.hid hbel
  clear K1 hc1 hf1 hc2 hf2 hbw hx1 hy1 hx2 hy2 hx3 hy3 hb1 hb2 hbel
  rw [HS.out, HT.out]
  rcases Int.lt_trichotomy s t with hlt | heq | hgt
  · have HL := Lib.hid (cmpI_lt (a := iv neg (val xs)) (b := iv neg2 (val ys)) (by rw [HS.out, HT.out]; exact hlt))
    go_wp2
    go_ret
    exact ⟨by rw [HL.out]; rfl, HW.out⟩
  · obtain rfl := heq
    by_cases h0 : s < 0
    · have HL := Lib.hid (cmpI_eq_neg (HS.out.trans HT.out.symm) (by rw [HS.out]; exact h0))
      go_wp2_with fail
      refine HC2.out.mono ?_
      rintro e w3 ⟨rfl, hd3⟩
      go_wp2
      go_ret
      exact ⟨by rw [HL.out]; rfl, HW.out.trans (hd3.below _)⟩
    · have HL := Lib.hid (cmpI_eq_pos (HS.out.trans HT.out.symm) (by rw [HS.out]; exact h0))
      go_wp2_with fail
      refine HC1.out.mono ?_
      rintro e w3 ⟨rfl, hd3⟩
      go_wp2
      go_ret
      exact ⟨by rw [HL.out]; rfl, HW.out.trans (hd3.below _)⟩
  · have HL := Lib.hid (cmpI_gt (a := iv neg (val xs)) (b := iv neg2 (val ys)) (by rw [HS.out, HT.out]; exact hgt))
    go_wp2
    go_ret
    exact ⟨by rw [HL.out]; rfl, HW.out⟩
end Go.Proofs.YtnknidfpkmnncaaGreat
/- integer.Add. -/
namespace Go.Proofs.YtnknidfpkmnncaaGreat
open Go.RowKit

/-- The three blocks that a function of two Ints lays at its start: its arguments' boxes and its result. -/
def box3 (w : World) (neg neg2 : Bool) (A A2 : Option Addr) (n c n2 c2 : Nat) : World :=
  ((w.alloc (.cells #[.bool neg, .slice A n c] 53)).alloc (.cells #[.bool neg2, .slice A2 n2 c2] 53)).alloc (.cells #[.bool false, .slice none 0 0] 53)
/-- What the boxes hold, as long as nothing writes to them. -/
structure Box3 (w : World) (neg neg2 : Bool) (A A2 : Option Addr) (n c n2 c2 : Nat) (wr : World) : Prop where
  a0 : wr.cell? ⟨w.heap.size, 0, none⟩ = some (.bool neg)
  a1 : wr.cell? ⟨w.heap.size, 1, none⟩ = some (.slice A n c)
  b0 : wr.cell? ⟨w.heap.size + 1, 0, none⟩ = some (.bool neg2)
  b1 : wr.cell? ⟨w.heap.size + 1, 1, none⟩ = some (.slice A2 n2 c2)
  r0 : wr.cell? ⟨w.heap.size + 1 + 1, 0, none⟩ = some (.bool false)
  r1 : wr.cell? ⟨w.heap.size + 1 + 1, 1, none⟩ = some (.slice none 0 0)
  fr0 : wr.frozen? ⟨w.heap.size + 1 + 1, 0, none⟩ = false
  fr1 : wr.frozen? ⟨w.heap.size + 1 + 1, 1, none⟩ = false
  size : w.heap.size + 1 + 1 < wr.heap.size
  ty : Ty wr (w.heap.size + 1 + 1) 53
  below : Below w.heap.size w wr
section
variable {w wr w1 : World} {neg neg2 : Bool} {A A2 : Option Addr} {n c n2 c2 : Nat}
theorem Box3.start (w : World) (neg neg2 : Bool) (A A2 : Option Addr) (n c n2 c2 : Nat) :
    Box3 w neg neg2 A A2 n c n2 c2 (((w.alloc (.cells #[.bool neg, .slice A n c] 53)).alloc (.cells #[.bool neg2, .slice A2 n2 c2] 53)).alloc (.cells #[.bool false, .slice none 0 0] 53)) where
  a0 := by go_simp
  a1 := by go_simp
  b0 := by go_simp
  b1 := by go_simp
  r0 := by go_simp
  r1 := by go_simp
  fr0 := by go_simp
  fr1 := by go_simp
  size := by simp
  ty := by
    have := Ty.new ((w.alloc (.cells #[.bool neg, .slice A n c] 53)).alloc (.cells #[.bool neg2, .slice A2 n2 c2] 53)) #[.bool false, .slice none 0 0] 53 (0, 0)
    simpa using this
  below := (below_box2 w _ _).alloc (by simp; omega) _
theorem Box3.next (h : Box3 w neg neg2 A A2 n c n2 c2 wr) (hb : Below wr.heap.size wr w1) : Box3 w neg neg2 A A2 n c n2 c2 w1 where
  a0 := (hb.cell (by have := h.size; show w.heap.size < _; omega)).trans h.a0
  a1 := (hb.cell (by have := h.size; show w.heap.size < _; omega)).trans h.a1
  b0 := (hb.cell (by have := h.size; show w.heap.size + 1 < _; omega)).trans h.b0
  b1 := (hb.cell (by have := h.size; show w.heap.size + 1 < _; omega)).trans h.b1
  r0 := (hb.cell (by exact h.size)).trans h.r0
  r1 := (hb.cell (by exact h.size)).trans h.r1
  fr0 := (hb.frozen (by exact h.size)).trans h.fr0
  fr1 := (hb.frozen (by exact h.size)).trans h.fr1
  size := by have := hb.size; have := h.size; omega
  ty := h.ty.below hb (Nat.le_refl _)
  below := h.below.trans (hb.mono (by have := h.size; omega))
theorem Box3.drew (h : Box3 w neg neg2 A A2 n c n2 c2 wr) : Box3 w neg neg2 A A2 n c n2 c2 wr.drew := h.next ((Below.refl _ _).drew)
theorem Box3.held (h : Box3 w neg neg2 A A2 n c n2 c2 wr) : wr.cell? ⟨w.heap.size, 0, none⟩ = some (.bool neg) ∧ wr.cell? ⟨w.heap.size, 1, none⟩ = some (.slice A n c) ∧ wr.cell? ⟨w.heap.size + 1, 0, none⟩ = some (.bool neg2) ∧ wr.cell? ⟨w.heap.size + 1, 1, none⟩ = some (.slice A2 n2 c2) :=
  ⟨h.a0, h.a1, h.b0, h.b1⟩
theorem Box3.heldSet (h : Box3 w neg neg2 A A2 n c n2 c2 wr) (u v : Value) :
    ((wr.setCell ⟨w.heap.size + 1 + 1, 0, none⟩ u).setCell ⟨w.heap.size + 1 + 1, 1, none⟩ v).cell? ⟨w.heap.size, 0, none⟩ = some (.bool neg) ∧ ((wr.setCell ⟨w.heap.size + 1 + 1, 0, none⟩ u).setCell ⟨w.heap.size + 1 + 1, 1, none⟩ v).cell? ⟨w.heap.size, 1, none⟩ = some (.slice A n c) ∧
    ((wr.setCell ⟨w.heap.size + 1 + 1, 0, none⟩ u).setCell ⟨w.heap.size + 1 + 1, 1, none⟩ v).cell? ⟨w.heap.size + 1, 0, none⟩ = some (.bool neg2) ∧ ((wr.setCell ⟨w.heap.size + 1 + 1, 0, none⟩ u).setCell ⟨w.heap.size + 1 + 1, 1, none⟩ v).cell? ⟨w.heap.size + 1, 1, none⟩ = some (.slice A2 n2 c2) := by
  have e : ∀ (W : World) (p q : Addr) (x : Value), p.block ≠ q.block → (W.setCell p x).cell? q = W.cell? q := fun W p q x hne => World.cell?_setCell_other W p q x (fun he => hne (by rw [he]))
  refine ⟨?_, ?_, ?_, ?_⟩ <;> rw [e _ _ _ _ (by first | (simp; done) | (simp; omega)), e _ _ _ _ (by first | (simp; done) | (simp; omega))]
  · exact h.a0
  · exact h.a1
  · exact h.b0
  · exact h.b1
/-- The result's two stores. -/
theorem Box3.done {B : Nat} {A' : Option Addr} {n' c' : Nat} {z : Int} (h : Box3 w neg neg2 A A2 n c n2 c2 wr) (hB : B ≤ w.heap.size) (hd : Dig B wr A' n' c' (digs z.natAbs)) :
    IntP B z w (.returned (.agg #[.bool (decide (z < 0)), .slice A' n' c'])) ((wr.setCell ⟨w.heap.size + 1 + 1, 0, none⟩ (.bool (decide (z < 0)))).setCell ⟨w.heap.size + 1 + 1, 1, none⟩ (.slice A' n' c')) :=
  ⟨A', n', c', rfl, hd.result (by omega) h.ty _ _, (h.below.setCell (by show w.heap.size ≤ w.heap.size + 1 + 1; omega) _).setCell (by show w.heap.size ≤ w.heap.size + 1 + 1; omega) _⟩
end

set_option maxRecDepth 100000 in
set_option maxHeartbeats 2000000 in
theorem iadd_same (B : Nat) (neg : Bool) (A A2 : Option Addr) (n c n2 c2 : Nat) (xs ys : List Nat) (w : World) (hB : B ≤ w.heap.size) (hx : Dig B w A n c xs) (hy : Dig B w A2 n2 c2 ys) (hn : n ≤ 1099511627776) (hn2 : n2 ≤ 1099511627776) :
    Calls Tryz.prog 31 #[.agg #[.bool neg, .slice A n c], .agg #[.bool neg, .slice A2 n2 c2]] w (IntP B (iv neg (val xs) + iv neg (val ys)) w) := by
  have hb := Box3.start w neg neg A A2 n c n2 c2
  have hbd := hb.drew
  have hx1 := (hx.below hb.below (Nat.le_refl _)).drew
  have hy1 := (hy.below hb.below (Nat.le_refl _)).drew
  have HE := Lib.hid (show iv neg (val xs + val ys) = iv neg (val xs) + iv neg (val ys) by cases neg <;> simp [iv] <;> omega)
  clear hb
  go_enter Tryz.func31, Tryz.ntmps31
  go_wp2_with fail
  go_region_held3 (fun w' => w'.cell? ⟨w.heap.size, 0, none⟩ = some (.bool neg) ∧ w'.cell? ⟨w.heap.size, 1, none⟩ = some (.slice A n c) ∧ w'.cell? ⟨w.heap.size + 1, 0, none⟩ = some (.bool neg) ∧ w'.cell? ⟨w.heap.size + 1, 1, none⟩ = some (.slice A2 n2 c2))
    (first | exact hbd.held | exact hb1.held | exact hb2.held | exact hb2.heldSet _ _)
    (first
      | (go_at_call 61; ((with_reducible refine (add_any B A A2 n c n2 c2 xs ys _ hx1 hy1 hn hn2).mono ?_); rintro e w1 ⟨A1, n1, c1, rfl, h1, hbw1⟩; have hb1 := hbd.next hbw1))
      | (go_at_call 60; ((with_reducible refine (made_any B neg A1 n1 c1 _ _ h1).mono ?_); rw [HE.out]; rintro e w2 ⟨A3, n3, c3, rfl, h2, hbw2⟩; have hb2 := hb1.next hbw2; have hr0 := hb2.r0; have hr1 := hb2.r1; have hf0 := hb2.fr0; have hf1 := hb2.fr1)))
  have hfin := hb2.done hB h2
  have HF := Lib.hid hfin
  clear hfin hb1 hb2 hbd hbw1 hbw2 hx1 hy1 h1 h2
  generalize iv neg (val xs) + iv neg (val ys) = z at *
  go_wp2
  exact bodyPost_ret (v := .agg #[.bool (decide (z < 0)), .slice A3 n3 c3]) (by simp [results, Tryz.results31, go_sem, hr0, hr1]) rfl HF.out

set_option maxRecDepth 100000 in
set_option maxHeartbeats 2000000 in
theorem iadd_diff_ge (B : Nat) (neg : Bool) (A A2 : Option Addr) (n c n2 c2 : Nat) (xs ys : List Nat) (w : World) (hB : B ≤ w.heap.size) (hx : Dig B w A n c xs) (hy : Dig B w A2 n2 c2 ys) (hn : n ≤ 1099511627776) (hn2 : n2 ≤ 1099511627776) (hge : val ys ≤ val xs) :
    Calls Tryz.prog 31 #[.agg #[.bool neg, .slice A n c], .agg #[.bool (!neg), .slice A2 n2 c2]] w (IntP B (iv neg (val xs) + iv (!neg) (val ys)) w) := by
  have hb := Box3.start w neg (!neg) A A2 n c n2 c2
  have hx1 := (hx.below hb.below (Nat.le_refl _))
  have hy1 := (hy.below hb.below (Nat.le_refl _))
  have HE := Lib.hid (show iv neg (val xs - val ys) = iv neg (val xs) + iv (!neg) (val ys) by cases neg <;> simp [iv] <;> omega)
  have HA := Lib.hid (sub_yes B _ _ _ _ _ _ _ _ _ hx1 hy1 hn hn2 hge)
  clear hge
  have hne : (neg == !neg) = false := by cases neg <;> rfl
  go_enter Tryz.func31, Tryz.ntmps31
  go_wp2_with fail
  refine HA.out.mono ?_
  rintro e w1 ⟨A1, n1, c1, rfl, h1, hbw1⟩
  have hb1 := hb.next hbw1
  have ha0 := hb1.a0
  clear hbw1 hb hx1 hy1 HA
  go_wp2_with fail
  refine (made_any B neg A1 n1 c1 _ _ h1).mono ?_
  rw [HE.out]
  rintro e w2 ⟨A3, n3, c3, rfl, h2, hbw2⟩
  have hb2 := hb1.next hbw2
  have hr0 := hb2.r0; have hr1 := hb2.r1; have hf0 := hb2.fr0; have hf1 := hb2.fr1
  have hfin := hb2.done hB h2
  have HF := Lib.hid hfin
  clear hfin hb1 hb2 hbw2 h1 h2 ha0
  generalize iv neg (val xs) + iv (!neg) (val ys) = z at *
  go_wp2
  exact bodyPost_ret (v := .agg #[.bool (decide (z < 0)), .slice A3 n3 c3]) (by simp [results, Tryz.results31, go_sem, hr0, hr1]) rfl HF.out

set_option maxRecDepth 100000 in
set_option maxHeartbeats 2000000 in
theorem iadd_diff_lt (B : Nat) (neg : Bool) (A A2 : Option Addr) (n c n2 c2 : Nat) (xs ys : List Nat) (w : World) (hB : B ≤ w.heap.size) (hx : Dig B w A n c xs) (hy : Dig B w A2 n2 c2 ys) (hn : n ≤ 1099511627776) (hn2 : n2 ≤ 1099511627776) (hlt : val xs < val ys) :
    Calls Tryz.prog 31 #[.agg #[.bool neg, .slice A n c], .agg #[.bool (!neg), .slice A2 n2 c2]] w (IntP B (iv neg (val xs) + iv (!neg) (val ys)) w) := by
  have hb := Box3.start w neg (!neg) A A2 n c n2 c2
  have hx1 := (hx.below hb.below (Nat.le_refl _))
  have hy1 := (hy.below hb.below (Nat.le_refl _))
  have HE := Lib.hid (show iv (!neg) (val ys - val xs) = iv neg (val xs) + iv (!neg) (val ys) by cases neg <;> simp [iv] <;> omega)
  have HA := Lib.hid (sub_no B _ _ _ _ _ _ _ _ _ hx1 hy1 hlt)
  have hle : val xs ≤ val ys := by omega
  have HL := Lib.hid hle
  clear hlt hle
  have hne : (neg == !neg) = false := by cases neg <;> rfl
  go_enter Tryz.func31, Tryz.ntmps31
  go_wp2_with fail
  refine HA.out.mono ?_
  rintro e w0 ⟨rfl, hd0⟩
  have hbw0 := hd0.below (((w.alloc (.cells #[.bool neg, .slice A n c] 53)).alloc (.cells #[.bool (!neg), .slice A2 n2 c2] 53)).alloc (.cells #[.bool false, .slice none 0 0] 53)).heap.size
  have hb0 := hb.next hbw0
  have HA2 := Lib.hid (sub_yes B _ _ _ _ _ _ _ _ _ (hy1.below hbw0 (Nat.le_refl _)) (hx1.below hbw0 (Nat.le_refl _)) hn2 hn HL.out)
  have k1 := hb0.a1
  have k2 := hb0.b1
  clear hbw0 hb hx1 hy1 HA hd0
  go_wp2_with fail
  refine HA2.out.mono ?_
  rintro e w1 ⟨A1, n1, c1, rfl, h1, hbw1⟩
  have hb1 := hb0.next hbw1
  have ha0 := hb1.b0
  clear hbw1 HA2 k1 k2 hb0
  go_wp2_with fail
  refine (made_any B (!neg) A1 n1 c1 _ _ h1).mono ?_
  rw [HE.out]
  rintro e w2 ⟨A3, n3, c3, rfl, h2, hbw2⟩
  have hb2 := hb1.next hbw2
  have hr0 := hb2.r0; have hr1 := hb2.r1; have hf0 := hb2.fr0; have hf1 := hb2.fr1
  have hfin := hb2.done hB h2
  have HF := Lib.hid hfin
  clear hfin hb1 hb2 hbw2 h1 h2 ha0
  generalize iv neg (val xs) + iv (!neg) (val ys) = z at *
  go_wp2
  exact bodyPost_ret (v := .agg #[.bool (decide (z < 0)), .slice A3 n3 c3]) (by simp [results, Tryz.results31, go_sem, hr0, hr1]) rfl HF.out

theorem iadd_any (B : Nat) (neg neg2 : Bool) (A A2 : Option Addr) (n c n2 c2 : Nat) (xs ys : List Nat) (w : World) (hB : B ≤ w.heap.size) (hx : Dig B w A n c xs) (hy : Dig B w A2 n2 c2 ys) (hn : n ≤ 1099511627776) (hn2 : n2 ≤ 1099511627776) :
    Calls Tryz.prog 31 #[.agg #[.bool neg, .slice A n c], .agg #[.bool neg2, .slice A2 n2 c2]] w (IntP B (iv neg (val xs) + iv neg2 (val ys)) w) := by
  by_cases h : neg2 = neg
  · subst h; exact iadd_same B _ _ _ _ _ _ _ _ _ _ hB hx hy hn hn2
  · have h2 : neg2 = !neg := by cases neg <;> cases neg2 <;> simp_all
    subst h2
    rcases Nat.lt_or_ge (val xs) (val ys) with h3 | h3
    · exact iadd_diff_lt B _ _ _ _ _ _ _ _ _ _ hB hx hy hn hn2 h3
    · exact iadd_diff_ge B _ _ _ _ _ _ _ _ _ _ hB hx hy hn hn2 h3
end Go.Proofs.YtnknidfpkmnncaaGreat
/- integer.Mul. -/
namespace Go.Proofs.YtnknidfpkmnncaaGreat
open Go.RowKit

set_option maxRecDepth 100000 in
set_option maxHeartbeats 2000000 in
theorem imul_any (B : Nat) (neg neg2 : Bool) (A A2 : Option Addr) (n c n2 c2 : Nat) (xs ys : List Nat) (w : World) (hB : B ≤ w.heap.size) (hx : Dig B w A n c xs) (hy : Dig B w A2 n2 c2 ys) (hn : n ≤ 1099511627776) (hn2 : n2 ≤ 1099511627776) :
    Calls Tryz.prog 36 #[.agg #[.bool neg, .slice A n c], .agg #[.bool neg2, .slice A2 n2 c2]] w (IntP B (iv neg (val xs) * iv neg2 (val ys)) w) := by
  have hb := Box3.start w neg neg2 A A2 n c n2 c2
  have hbd := hb.drew
  have hx1 := (hx.below hb.below (Nat.le_refl _)).drew
  have hy1 := (hy.below hb.below (Nat.le_refl _)).drew
  have HE := Lib.hid (show iv (!(neg == neg2)) (val xs * val ys) = iv neg (val xs) * iv neg2 (val ys) by cases neg <;> cases neg2 <;> simp [iv, Int.neg_mul, Int.mul_neg])
  clear hb
  go_enter Tryz.func36, Tryz.ntmps36
  go_wp2_with fail
  go_region_held3 (fun w' => w'.cell? ⟨w.heap.size, 0, none⟩ = some (.bool neg) ∧ w'.cell? ⟨w.heap.size, 1, none⟩ = some (.slice A n c) ∧ w'.cell? ⟨w.heap.size + 1, 0, none⟩ = some (.bool neg2) ∧ w'.cell? ⟨w.heap.size + 1, 1, none⟩ = some (.slice A2 n2 c2))
    (first | exact hbd.held | exact hb1.held | exact hb2.held | exact hb2.heldSet _ _)
    (first
      | (go_at_call 66; ((with_reducible refine (mul_any B A A2 n c n2 c2 xs ys _ hx1 hy1 hn hn2).mono ?_); rintro e w1 ⟨A1, n1, c1, rfl, h1, hbw1⟩; have hb1 := hbd.next hbw1))
      | (go_at_call 60; ((with_reducible refine (made_any B _ A1 n1 c1 _ _ h1).mono ?_); rw [HE.out]; rintro e w2 ⟨A3, n3, c3, rfl, h2, hbw2⟩; have hb2 := hb1.next hbw2; have hr0 := hb2.r0; have hr1 := hb2.r1; have hf0 := hb2.fr0; have hf1 := hb2.fr1)))
  have hfin := hb2.done hB h2
  have HF := Lib.hid hfin
  clear hfin hb1 hb2 hbd hbw1 hbw2 hx1 hy1 h1 h2
  generalize iv neg (val xs) * iv neg2 (val ys) = z at *
  go_wp2
  exact bodyPost_ret (v := .agg #[.bool (decide (z < 0)), .slice A3 n3 c3]) (by simp [results, Tryz.results36, go_sem, hr0, hr1]) rfl HF.out
end Go.Proofs.YtnknidfpkmnncaaGreat
/- Plain laws of exponents, of their order, and of sorted lists. -/
namespace Go.Proofs.YtnknidfpkmnncaaGreat

/-- Four exponents. -/
abbrev Ex := Int × Int × Int × Int
def ex (e : Ex) : Nat → Int
  | 0 => e.1
  | 1 => e.2.1
  | 2 => e.2.2.1
  | _ => e.2.2.2
def validTo (e : Ex) : Nat → Bool
  | 0 => true
  | k + 1 => validTo e k && decide (0 ≤ ex e k)
def validE (e : Ex) : Bool := validTo e 4
def cmpTo (e f : Ex) : Nat → Int
  | 0 => 0
  | k + 1 => if ex e k < ex f k then -1 else if ex f k < ex e k then 1 else cmpTo e f k
def cmpE (e f : Ex) : Int := cmpTo e f 4

theorem validE_false {e : Ex} {k : Nat} (hk : k < 4) (h : ex e k < 0) : validE e = false := by
  match k, hk, h with
  | 0, _, h => simp only [ex] at h; simp [validE, validTo, ex]; omega
  | 1, _, h => simp only [ex] at h; simp [validE, validTo, ex]; omega
  | 2, _, h => simp only [ex] at h; simp [validE, validTo, ex]; omega
  | 3, _, h => simp only [ex] at h; simp [validE, validTo, ex]; omega
theorem validE_true {e : Ex} (h : ∀ j, j < 4 → 0 ≤ ex e j) : validE e = true := by
  simp [validE, validTo, h]
theorem validE_iff {e : Ex} : validE e = true ↔ ∀ j, j < 4 → 0 ≤ ex e j := by
  constructor
  · intro h j hj
    rcases Int.lt_or_le (ex e j) 0 with h1 | h1
    · rw [validE_false hj h1] at h; cases h
    · exact h1
  · exact validE_true
theorem cmpTo_lt {e f : Ex} {k : Nat} (hk : k < 4) (h : ∀ j, k < j → j < 4 → ex e j = ex f j) (hlt : ex e k < ex f k) : cmpE e f = -1 := by
  unfold cmpE
  match k, hk, h, hlt with
  | 3, _, _, hlt => simp [cmpTo, hlt]
  | 2, _, h, hlt => have h3 := h 3 (by omega) (by omega); simp [cmpTo, hlt, h3]
  | 1, _, h, hlt => have h3 := h 3 (by omega) (by omega); have h2 := h 2 (by omega) (by omega); simp [cmpTo, hlt, h3, h2]
  | 0, _, h, hlt => have h3 := h 3 (by omega) (by omega); have h2 := h 2 (by omega) (by omega); have h1 := h 1 (by omega) (by omega); simp [cmpTo, hlt, h3, h2, h1]
theorem cmpTo_gt {e f : Ex} {k : Nat} (hk : k < 4) (h : ∀ j, k < j → j < 4 → ex e j = ex f j) (hlt : ex f k < ex e k) : cmpE e f = 1 := by
  have hn : ¬ ex e k < ex f k := by omega
  unfold cmpE
  match k, hk, h, hlt, hn with
  | 3, _, _, hlt, hn => simp [cmpTo, hlt, hn]
  | 2, _, h, hlt, hn => have h3 := h 3 (by omega) (by omega); simp [cmpTo, hlt, h3, hn]
  | 1, _, h, hlt, hn => have h3 := h 3 (by omega) (by omega); have h2 := h 2 (by omega) (by omega); simp [cmpTo, hlt, h3, h2, hn]
  | 0, _, h, hlt, hn => have h3 := h 3 (by omega) (by omega); have h2 := h 2 (by omega) (by omega); have h1 := h 1 (by omega) (by omega); simp [cmpTo, hlt, h3, h2, h1, hn]
theorem cmpTo_eq {e f : Ex} (h : ∀ j, j < 4 → ex e j = ex f j) : cmpE e f = 0 := by
  simp [cmpE, cmpTo, h]
theorem cmpTo_neg (e f : Ex) (k : Nat) : cmpTo f e k = -cmpTo e f k := by
  induction k with
  | zero => rfl
  | succ k ih =>
    unfold cmpTo
    rcases Int.lt_trichotomy (ex e k) (ex f k) with h | h | h
    · rw [if_neg (by omega), if_pos h, if_pos h]; rfl
    · rw [if_neg (by omega), if_neg (by omega), if_neg (by omega), if_neg (by omega)]; exact ih
    · rw [if_pos h, if_neg (by omega), if_pos h]
theorem cmpE_neg (e f : Ex) : cmpE f e = -cmpE e f := cmpTo_neg e f 4
theorem cmpTo_trans {e f g : Ex} (k : Nat) (h1 : 0 ≤ cmpTo e f k) (h2 : 0 ≤ cmpTo f g k) : 0 ≤ cmpTo e g k ∧ (cmpTo e g k = 0 → cmpTo e f k = 0 ∧ cmpTo f g k = 0) := by
  induction k with
  | zero => exact ⟨by simp [cmpTo], fun _ => ⟨rfl, rfl⟩⟩
  | succ k ih =>
    unfold cmpTo at h1 h2 ⊢
    rcases Int.lt_trichotomy (ex e k) (ex f k) with h | h | h
    · rw [if_pos h] at h1; omega
    · rw [if_neg (by omega), if_neg (by omega)] at h1
      rcases Int.lt_trichotomy (ex f k) (ex g k) with h' | h' | h'
      · rw [if_pos h'] at h2; omega
      · rw [if_neg (by omega), if_neg (by omega)] at h2
        rw [if_neg (by omega), if_neg (by omega), if_neg (by omega), if_neg (by omega), if_neg (by omega), if_neg (by omega)]
        exact ih h1 h2
      · rw [if_neg (show ¬ ex e k < ex g k by omega), if_pos (show ex g k < ex e k by omega)]
        exact ⟨by omega, fun h3 => by omega⟩
    · rcases Int.lt_trichotomy (ex f k) (ex g k) with h' | h' | h'
      · rw [if_pos h'] at h2; omega
      · rw [if_neg (show ¬ ex e k < ex g k by omega), if_pos (show ex g k < ex e k by omega)]
        exact ⟨by omega, fun h3 => by omega⟩
      · rw [if_neg (show ¬ ex e k < ex g k by omega), if_pos (show ex g k < ex e k by omega)]
        exact ⟨by omega, fun h3 => by omega⟩
theorem cmpE_trans {e f g : Ex} (h1 : 0 ≤ cmpE e f) (h2 : 0 ≤ cmpE f g) : 0 ≤ cmpE e g := (cmpTo_trans 4 h1 h2).1
theorem cmpE_zero {e f : Ex} : cmpE e f = 0 ↔ e = f := by
  constructor
  · intro h
    have hk : ∀ k, k < 4 → ex e k = ex f k := by
      have h3 : ex e 3 = ex f 3 := by
        rcases Int.lt_trichotomy (ex e 3) (ex f 3) with h1 | h1 | h1
        · rw [cmpTo_lt (k := 3) (by omega) (fun j _ _ => by omega) h1] at h; omega
        · exact h1
        · rw [cmpTo_gt (k := 3) (by omega) (fun j _ _ => by omega) h1] at h; omega
      have h2 : ex e 2 = ex f 2 := by
        have hj : ∀ j, 2 < j → j < 4 → ex e j = ex f j := fun j _ _ => by
          rw [show j = 3 by omega]; exact h3
        rcases Int.lt_trichotomy (ex e 2) (ex f 2) with h1 | h1 | h1
        · rw [cmpTo_lt (k := 2) (by omega) hj h1] at h; omega
        · exact h1
        · rw [cmpTo_gt (k := 2) (by omega) hj h1] at h; omega
      have h1 : ex e 1 = ex f 1 := by
        have hj : ∀ j, 1 < j → j < 4 → ex e j = ex f j := fun j _ _ => by
          rcases (show j = 2 ∨ j = 3 by omega) with h5 | h5
          · rw [h5]; exact h2
          · rw [h5]; exact h3
        rcases Int.lt_trichotomy (ex e 1) (ex f 1) with h1 | h1 | h1
        · rw [cmpTo_lt (k := 1) (by omega) hj h1] at h; omega
        · exact h1
        · rw [cmpTo_gt (k := 1) (by omega) hj h1] at h; omega
      have h0 : ex e 0 = ex f 0 := by
        have hj : ∀ j, 0 < j → j < 4 → ex e j = ex f j := fun j _ _ => by
          rcases (show j = 1 ∨ j = 2 ∨ j = 3 by omega) with h5 | h5 | h5
          · rw [h5]; exact h1
          · rw [h5]; exact h2
          · rw [h5]; exact h3
        rcases Int.lt_trichotomy (ex e 0) (ex f 0) with h1 | h1 | h1
        · rw [cmpTo_lt (k := 0) (by omega) hj h1] at h; omega
        · exact h1
        · rw [cmpTo_gt (k := 0) (by omega) hj h1] at h; omega
      intro k hk
      rcases (show k = 0 ∨ k = 1 ∨ k = 2 ∨ k = 3 by omega) with h5 | h5 | h5 | h5 <;> rw [h5] <;> assumption
    obtain ⟨a, b, c, d⟩ := e
    obtain ⟨a2, b2, c2, d2⟩ := f
    have e0 := hk 0 (by omega); have e1 := hk 1 (by omega); have e2 := hk 2 (by omega); have e3 := hk 3 (by omega)
    simp only [ex] at e0 e1 e2 e3
    rw [e0, e1, e2, e3]
  · rintro rfl
    exact cmpTo_eq fun _ _ => rfl
theorem cmpE_range (e f : Ex) : cmpE e f = -1 ∨ cmpE e f = 0 ∨ cmpE e f = 1 := by
  unfold cmpE
  have : ∀ k, cmpTo e f k = -1 ∨ cmpTo e f k = 0 ∨ cmpTo e f k = 1 := by
    intro k
    induction k with
    | zero => right; left; rfl
    | succ k ih =>
      unfold cmpTo
      split
      · left; rfl
      · split
        · right; right; rfl
        · exact ih
  exact this 4

section
variable {α : Type} {r : α → α → Prop}
theorem insert_sorted (htr : ∀ a b c, r a b → r b c → r a c) {X1 X2 : List α} {x : α} (hs : (X1 ++ X2).Pairwise r) (h2 : ∀ y ∈ X2, r x y) (h1 : ∀ Y s, X1 = Y ++ [s] → r s x) : (X1 ++ x :: X2).Pairwise r := by
  rw [List.pairwise_append] at hs ⊢
  obtain ⟨p1, p2, p3⟩ := hs
  refine ⟨p1, List.pairwise_cons.2 ⟨h2, p2⟩, fun u hu v hv => ?_⟩
  rcases List.mem_cons.1 hv with rfl | hv
  · rcases List.eq_nil_or_concat X1 with h0 | ⟨Y, s, hY⟩
    · rw [h0] at hu; cases hu
    · rw [List.concat_eq_append] at hY
      have hs := h1 Y s hY
      rw [hY, List.mem_append] at hu
      rcases hu with hu | hu
      · rw [hY, List.pairwise_append] at p1
        exact htr _ _ _ (p1.2.2 u hu s (by simp)) hs
      · rw [List.mem_singleton] at hu
        rw [hu]; exact hs
  · exact p3 u hu v hv
end
theorem perm_insert {α : Type} (X1 X2 Y : List α) (x : α) : ((X1 ++ x :: X2) ++ Y).Perm ((X1 ++ X2) ++ x :: Y) := by
  rw [List.append_assoc, List.cons_append]
  refine (List.perm_middle).trans ?_
  refine List.Perm.trans ?_ (List.perm_middle).symm
  rw [List.append_assoc]
theorem at_len {α : Type} (U : List α) (s : α) (Q : List α) (m : Nat) (h : U.length = m) : (U ++ s :: Q)[m]? = some s := by
  subst h; simp
theorem at_len1 {α : Type} (U : List α) (s x : α) (Q : List α) (m : Nat) (h : U.length = m) : (U ++ s :: x :: Q)[m + 1]? = some x := by
  subst h; simp
theorem swap_len {α : Type} (U : List α) (s x : α) (Q : List α) (m : Nat) (h : U.length = m) : ((U ++ s :: x :: Q).set (m + 1) s).set m x = U ++ x :: s :: Q := by
  subst h
  rw [List.set_append_right _ _ (by omega), List.set_append_right _ _ (by omega)]
  simp
end Go.Proofs.YtnknidfpkmnncaaGreat
/- checkpoly.valid, before, and the two functions that Normal hands to the library. -/
namespace Go.Proofs.YtnknidfpkmnncaaGreat
open Go.RowKit

theorem ind0 (a b c d : Int) (w : World) : (Instr.index 55 (.agg #[.int .i64 a, .int .i64 b, .int .i64 c, .int .i64 d]) (.int .i64 0)).run Tryz.prog w = .ok (.int .i64 a) w := by kernel_rfl
theorem ind1 (a b c d : Int) (w : World) : (Instr.index 55 (.agg #[.int .i64 a, .int .i64 b, .int .i64 c, .int .i64 d]) (.int .i64 1)).run Tryz.prog w = .ok (.int .i64 b) w := by kernel_rfl
theorem ind2 (a b c d : Int) (w : World) : (Instr.index 55 (.agg #[.int .i64 a, .int .i64 b, .int .i64 c, .int .i64 d]) (.int .i64 2)).run Tryz.prog w = .ok (.int .i64 c) w := by kernel_rfl
theorem ind3 (a b c d : Int) (w : World) : (Instr.index 55 (.agg #[.int .i64 a, .int .i64 b, .int .i64 c, .int .i64 d]) (.int .i64 3)).run Tryz.prog w = .ok (.int .i64 d) w := by kernel_rfl
theorem ind_any (a b c d : Int) (k : Nat) (hk : k < 4) : ∀ w, (Instr.index 55 (.agg #[.int .i64 a, .int .i64 b, .int .i64 c, .int .i64 d]) (.int .i64 (k : Int))).run Tryz.prog w = .ok (.int .i64 (ex (a, b, c, d) k)) w := by
  intro w
  match k, hk with
  | 0, _ => exact ind0 a b c d w
  | 1, _ => exact ind1 a b c d w
  | 2, _ => exact ind2 a b c d w
  | 3, _ => exact ind3 a b c d w
set_option maxHeartbeats 1000000 in
theorem valid_any (e : Ex) (w : World) : Calls Tryz.prog 26 #[.agg #[.int .i64 e.1, .int .i64 e.2.1, .int .i64 e.2.2.1, .int .i64 e.2.2.2]] w (ValP (.bool (validE e)) w) := by
  obtain ⟨a, b, c, d⟩ := e
  have hbw : Below w.heap.size w (w.alloc (.cells #[.int .i64 a, .int .i64 b, .int .i64 c, .int .i64 d] 55)) := (Below.refl _ _).alloc (Nat.le_refl _) _
  go_enter Tryz.func26, Tryz.ntmps26
  go_wp2
  go_loop [6] (fun i => ∃ k : Nat, k ≤ 4 ∧ i = .int .i64 k ∧ Hid (∀ j, j < k → 0 ≤ ex (a, b, c, d) j)) (fun i => 4 - (intOf i).toNat)
  case atStart => exact ⟨0, by omega, rfl, Lib.hid (fun j hj => absurd hj (by omega))⟩
  case round =>
    obtain ⟨k, hk, rfl, HV⟩ := hrel
    by_cases hlt : k < 4
    · have hix := ind_any a b c d k hlt
      obtain ⟨x, hx⟩ : ∃ x, ex (a, b, c, d) k = x := ⟨_, rfl⟩
      rw [hx] at hix
      have HX := Lib.hid hx
      clear hx
      by_cases hneg : x < 0
      · have HF := Lib.hid (validE_false (e := (a, b, c, d)) hlt (by rw [HX.out]; exact hneg))
        go_wp2
        go_ret
        exact ⟨by rw [HF.out]; rfl, hbw⟩
      · have HV2 := Lib.hid (show ∀ j, j < k + 1 → 0 ≤ ex (a, b, c, d) j from fun j hj => by
          rcases Nat.lt_or_ge j k with h1 | h1
          · exact HV.out j h1
          · have : j = k := by omega
            rw [this, HX.out]; omega)
        clear HV HX
        go_wp2
        go_round
        case rel => exact ⟨k + 1, by omega, by go_num, HV2⟩
        case measure => simp [intOf]; omega
    · have hk4 : k = 4 := by omega
      subst hk4
      have HF := Lib.hid (validE_true HV.out)
      clear HV
      go_wp2
      go_ret
      exact ⟨by rw [HF.out]; rfl, hbw⟩

theorem ex_cell (w : World) (H : Nat) (a b c d : Int) (h : w.heap[H]? = some (.cells #[.int .i64 a, .int .i64 b, .int .i64 c, .int .i64 d] 55 (0, 0))) (k : Nat) (hk : k < 4) : w.cell? ⟨H, k, none⟩ = some (.int .i64 (ex (a, b, c, d) k)) := by
  rw [cell_of_row w H k _ _ _ h]
  match k, hk with
  | 0, _ => rfl
  | 1, _ => rfl
  | 2, _ => rfl
  | 3, _ => rfl

set_option maxRecDepth 100000 in
set_option maxHeartbeats 1000000 in
theorem before_any (e f : Ex) (w : World) : Calls Tryz.prog 30 #[.agg #[.int .i64 e.1, .int .i64 e.2.1, .int .i64 e.2.2.1, .int .i64 e.2.2.2], .agg #[.int .i64 f.1, .int .i64 f.2.1, .int .i64 f.2.2.1, .int .i64 f.2.2.2]] w (ValP (.int .i64 (cmpE e f)) w) := by
  obtain ⟨a, b, c, d⟩ := e
  obtain ⟨a2, b2, c2, d2⟩ := f
  have hbw := below_box2 w (.cells #[.int .i64 a, .int .i64 b, .int .i64 c, .int .i64 d] 55) (.cells #[.int .i64 a2, .int .i64 b2, .int .i64 c2, .int .i64 d2] 55)
  have hc1 := ex_cell ((w.alloc (.cells #[.int .i64 a, .int .i64 b, .int .i64 c, .int .i64 d] 55)).alloc (.cells #[.int .i64 a2, .int .i64 b2, .int .i64 c2, .int .i64 d2] 55)) w.heap.size a b c d (by rw [Below.heap_alloc _ _ _ (by simp)]; exact heap_alloc_new w _)
  have hc2 := ex_cell ((w.alloc (.cells #[.int .i64 a, .int .i64 b, .int .i64 c, .int .i64 d] 55)).alloc (.cells #[.int .i64 a2, .int .i64 b2, .int .i64 c2, .int .i64 d2] 55)) (w.heap.size + 1) a2 b2 c2 d2 (by
    have := heap_alloc_new (w.alloc (.cells #[.int .i64 a, .int .i64 b, .int .i64 c, .int .i64 d] 55)) (.cells #[.int .i64 a2, .int .i64 b2, .int .i64 c2, .int .i64 d2] 55)
    simpa using this)
  have HC1 := Lib.hid hc1
  have HC2 := Lib.hid hc2
  clear hc1 hc2
  obtain ⟨W, hW⟩ : ∃ W, W = ((w.alloc (.cells #[.int .i64 a, .int .i64 b, .int .i64 c, .int .i64 d] 55)).alloc (.cells #[.int .i64 a2, .int .i64 b2, .int .i64 c2, .int .i64 d2] 55)) := ⟨_, rfl⟩
  rw [← hW] at HC1 HC2 hbw
  have HW := Lib.hid hW
  clear hW
  go_enter Tryz.func30, Tryz.ntmps30
  go_wp2
  rw [← HW.out]
  clear HW
  go_loopw [5] (fun i wr => ∃ k : Nat, k ≤ 4 ∧ i = .int .i64 ((k : Int) - 1) ∧ Hid (∀ j, k ≤ j → j < 4 → ex (a, b, c, d) j = ex (a2, b2, c2, d2) j) ∧ Hid (Drawn W wr)) (fun i _ => (intOf i + 1).toNat)
  case atStart => exact ⟨4, by omega, rfl, Lib.hid (fun j hj hj4 => absurd hj (by omega)), Lib.hid (Drawn.refl _)⟩
  case round =>
    obtain ⟨k, hk, rfl, HV, Hw⟩ := hrel
    obtain ⟨m, hm⟩ := Hw.out
    subst hm
    rcases k with _ | k
    · have HF := Lib.hid (cmpTo_eq (e := (a, b, c, d)) (f := (a2, b2, c2, d2)) fun j hj => HV.out j (by omega) hj)
      go_wp2
      go_ret
      exact ⟨by rw [HF.out]; rfl, hbw.trans (((Drawn.refl _).drewN m).below _)⟩
    · have hx := HC1.out k (by omega)
      have hy := HC2.out k (by omega)
      have HV' := Lib.hid (show ∀ j, k < j → j < 4 → ex (a, b, c, d) j = ex (a2, b2, c2, d2) j from fun j hj h4 => HV.out j (by omega) h4)
      have e1 : (((k + 1 : Nat) : Int) - 1) = (k : Int) := by omega
      rw [e1]
      clear e1 HV
      have i0 : (0 : Int) ≤ (k : Int) := by omega
      have i1 : (k : Int) < 4 := by omega
      rcases Int.lt_trichotomy (ex (a, b, c, d) k) (ex (a2, b2, c2, d2) k) with hd | hd | hd
      · have HF := Lib.hid (cmpTo_lt (by omega) HV'.out hd)
        generalize ex (a, b, c, d) k = x at *
        generalize ex (a2, b2, c2, d2) k = y at *
        have hb1 : (x != y) = true := by rw [bne_iff_ne]; omega
        clear HV'
        go_wp2
        go_quiet (fail)
        go_wp2
        go_quiet (fail)
        go_wp2
        go_ret
        refine ⟨by rw [HF.out]; rfl, hbw.trans (Drawn.below ?_ _)⟩
        repeat (first | exact Drawn.refl _ | refine Drawn.drewN ?_ _)
      · have HV2 := Lib.hid (show ∀ j, k ≤ j → j < 4 → ex (a, b, c, d) j = ex (a2, b2, c2, d2) j from fun j hj h4 => by
          rcases Nat.eq_or_lt_of_le hj with h1 | h1
          · rw [← h1]; exact hd
          · exact HV'.out j h1 h4)
        generalize ex (a, b, c, d) k = x at *
        generalize ex (a2, b2, c2, d2) k = y at *
        have hb1 : (x != y) = false := by rw [hd]; simp
        have HD := Lib.hid hd
        clear HV' hd
        go_wp2
        go_quiet (fail)
        go_wp2
        go_roundw
        case rel => exact ⟨k, by omega, by go_num, HV2, Lib.hid (by repeat (first | exact Drawn.refl _ | refine Drawn.drewN ?_ _))⟩
        case measure => simp [intOf]
      · have HF := Lib.hid (cmpTo_gt (by omega) HV'.out hd)
        generalize ex (a, b, c, d) k = x at *
        generalize ex (a2, b2, c2, d2) k = y at *
        have hb1 : (x != y) = true := by rw [bne_iff_ne]; omega
        clear HV'
        go_wp2
        go_quiet (fail)
        go_wp2
        go_quiet (fail)
        go_wp2
        go_ret
        refine ⟨by rw [HF.out]; rfl, hbw.trans (Drawn.below ?_ _)⟩
        repeat (first | exact Drawn.refl _ | refine Drawn.drewN ?_ _)
end Go.Proofs.YtnknidfpkmnncaaGreat
/- The comparison and the test that checkpoly.Normal hands to the library. -/
namespace Go.Proofs.YtnknidfpkmnncaaGreat
open Go.RowKit

set_option maxHeartbeats 1000000 in
theorem cmp46_any (neg neg2 : Bool) (A A2 : Option Addr) (n c n2 c2 : Nat) (e f : Ex) (w : World) :
    Calls Tryz.prog 29 #[.agg #[.bool neg, .slice A n c, .int .i64 e.1, .int .i64 e.2.1, .int .i64 e.2.2.1, .int .i64 e.2.2.2], .agg #[.bool neg2, .slice A2 n2 c2, .int .i64 f.1, .int .i64 f.2.1, .int .i64 f.2.2.1, .int .i64 f.2.2.2]] w (ValP (.int .i64 (cmpE f e)) w) := by
  have hbw := below_box2 w (.cells #[.bool neg, .slice A n c, .int .i64 e.1, .int .i64 e.2.1, .int .i64 e.2.2.1, .int .i64 e.2.2.2] 57) (.cells #[.bool neg2, .slice A2 n2 c2, .int .i64 f.1, .int .i64 f.2.1, .int .i64 f.2.2.1, .int .i64 f.2.2.2] 57)
  go_enter Tryz.func29, Tryz.ntmps29
  go_wp2_with fail
  refine (before_any f e _).mono ?_
  rintro e' w1 ⟨rfl, hb1⟩
  go_wp2
  go_ret
  exact ⟨rfl, hbw.trans (hb1.mono (by simp; omega))⟩

set_option maxHeartbeats 1000000 in
theorem zero50_any (B : Nat) (neg : Bool) (A : Option Addr) (n c : Nat) (xs : List Nat) (e : Ex) (w : World) (h : Dig B w A n c xs) :
    Calls Tryz.prog 33 #[.agg #[.bool neg, .slice A n c, .int .i64 e.1, .int .i64 e.2.1, .int .i64 e.2.2.1, .int .i64 e.2.2.2]] w (ValP (.bool (iv neg (val xs) == 0)) w) := by
  have hbw : Below w.heap.size w (w.alloc (.cells #[.bool neg, .slice A n c, .int .i64 e.1, .int .i64 e.2.1, .int .i64 e.2.2.1, .int .i64 e.2.2.2] 57)) := (Below.refl _ _).alloc (Nat.le_refl _) _
  have hx := h.below hbw (Nat.le_refl _)
  have HE := Lib.hid (show ((iv neg (val xs)).sign == 0) = (iv neg (val xs) == 0) by rw [Bool.eq_iff_iff, beq_iff_eq, beq_iff_eq]; exact Int.sign_eq_zero_iff_zero)
  go_enter Tryz.func33, Tryz.ntmps33
  go_wp2_with fail
  refine (isign_any B _ _ _ _ _ _ hx).mono ?_
  rintro e' w1 ⟨rfl, hb1⟩
  go_wp2
  go_ret
  exact ⟨by rw [← HE.out]; rfl, hbw.trans (hb1.mono (by simp))⟩
end Go.Proofs.YtnknidfpkmnncaaGreat
