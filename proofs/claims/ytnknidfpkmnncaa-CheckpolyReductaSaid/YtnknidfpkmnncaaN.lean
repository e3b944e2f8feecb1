/- Plain laws of numbers written in the base 2^32: the value of a list of digits, the digits of a number. -/
namespace Go.Proofs.Ytnknidfpkmnncaa

/-- The digit k, 0 beyond the end. -/
def dg (xs : List Nat) (k : Nat) : Nat := xs.getD k 0
/-- The value of digits in the base 2^32, least significant first. -/
def val : List Nat → Nat
  | [] => 0
  | x :: xs => x + 4294967296 * val xs
/-- The digits of a number, none for 0. -/
def digs (n : Nat) : List Nat := if h : n = 0 then [] else (n % 4294967296) :: digs (n / 4294967296)
termination_by n
decreasing_by exact Nat.div_lt_self (by omega) (by omega)
/-- All digits are below the base. -/
def Lt32 (xs : List Nat) : Prop := ∀ k, dg xs k < 4294967296
/-- The powers of the base. -/
def bp (k : Nat) : Nat := 4294967296 ^ k

theorem bp_zero : bp 0 = 1 := rfl
theorem bp_succ (k : Nat) : bp (k + 1) = 4294967296 * bp k := by unfold bp; rw [Nat.pow_succ, Nat.mul_comm]
theorem bp_pos (k : Nat) : 0 < bp k := Nat.pow_pos (by omega)
theorem bp_add (a b : Nat) : bp (a + b) = bp a * bp b := Nat.pow_add ..
theorem bp_mono {a b : Nat} (h : a ≤ b) : bp a ≤ bp b := Nat.pow_le_pow_right (by omega) h

theorem dg_nil (k : Nat) : dg [] k = 0 := by simp [dg]
theorem dg_zero (x : Nat) (xs : List Nat) : dg (x :: xs) 0 = x := rfl
theorem dg_succ (x : Nat) (xs : List Nat) (k : Nat) : dg (x :: xs) (k + 1) = dg xs k := rfl
theorem dg_beyond (xs : List Nat) (k : Nat) (h : xs.length ≤ k) : dg xs k = 0 := by
  unfold dg; rw [List.getD_eq_getElem?_getD, List.getElem?_eq_none h]; rfl
theorem dg_take (xs : List Nat) (m k : Nat) : dg (xs.take m) k = if k < m then dg xs k else 0 := by
  unfold dg
  simp only [List.getD_eq_getElem?_getD, List.getElem?_take]
  split <;> rfl
theorem dg_drop (xs : List Nat) (m k : Nat) : dg (xs.drop m) k = dg xs (m + k) := by
  unfold dg
  simp only [List.getD_eq_getElem?_getD, List.getElem?_drop]
theorem dg_append (xs ys : List Nat) (k : Nat) : dg (xs ++ ys) k = if k < xs.length then dg xs k else dg ys (k - xs.length) := by
  unfold dg
  simp only [List.getD_eq_getElem?_getD, List.getElem?_append]
  split <;> rfl
theorem dg_set (xs : List Nat) (i v k : Nat) : dg (xs.set i v) k = if k = i ∧ i < xs.length then v else dg xs k := by
  unfold dg
  simp only [List.getD_eq_getElem?_getD, List.getElem?_set]
  by_cases h : i = k
  · subst h
    by_cases hl : i < xs.length
    · simp [hl]
    · simp [hl]
  · rw [if_neg h, if_neg (by omega)]
theorem dg_replicate (n v k : Nat) : dg (List.replicate n v) k = if k < n then v else 0 := by
  unfold dg
  simp only [List.getD_eq_getElem?_getD, List.getElem?_replicate]
  split <;> rfl
theorem dg_ext {xs ys : List Nat} (hl : xs.length = ys.length) (h : ∀ k, k < xs.length → dg xs k = dg ys k) : xs = ys := by
  refine List.ext_getElem hl fun k h1 h2 => ?_
  have := h k h1
  unfold dg at this
  rwa [List.getD_eq_getElem?_getD, List.getD_eq_getElem?_getD, List.getElem?_eq_getElem h1, List.getElem?_eq_getElem h2] at this

theorem Lt32.nil : Lt32 [] := fun k => by rw [dg_nil]; omega
theorem Lt32.tail {x : Nat} {xs : List Nat} (h : Lt32 (x :: xs)) : Lt32 xs := fun k => h (k + 1)
theorem Lt32.head {x : Nat} {xs : List Nat} (h : Lt32 (x :: xs)) : x < 4294967296 := h 0
theorem Lt32.cons {x : Nat} {xs : List Nat} (hx : x < 4294967296) (h : Lt32 xs) : Lt32 (x :: xs) := fun k => by
  cases k with
  | zero => exact hx
  | succ k => exact h k
theorem Lt32.take {xs : List Nat} (h : Lt32 xs) (m : Nat) : Lt32 (xs.take m) := fun k => by
  rw [dg_take]; split; exact h k; omega
theorem Lt32.drop {xs : List Nat} (h : Lt32 xs) (m : Nat) : Lt32 (xs.drop m) := fun k => by
  rw [dg_drop]; exact h _
theorem Lt32.set {xs : List Nat} (h : Lt32 xs) (i : Nat) {v : Nat} (hv : v < 4294967296) : Lt32 (xs.set i v) := fun k => by
  rw [dg_set]; split; exact hv; exact h k
theorem Lt32.append {xs ys : List Nat} (h : Lt32 xs) (h' : Lt32 ys) : Lt32 (xs ++ ys) := fun k => by
  rw [dg_append]; split; exact h k; exact h' _

theorem val_nil : val [] = 0 := rfl
theorem val_cons (x : Nat) (xs : List Nat) : val (x :: xs) = x + 4294967296 * val xs := rfl
theorem val_append (xs ys : List Nat) : val (xs ++ ys) = val xs + bp xs.length * val ys := by
  induction xs with
  | nil => simp [val, bp]
  | cons x xs ih =>
    rw [List.cons_append, val_cons, val_cons, ih, List.length_cons, bp_succ, Nat.mul_add, Nat.mul_assoc, Nat.add_assoc]
theorem val_take_succ (xs : List Nat) (k : Nat) (h : k < xs.length) : val (xs.take (k + 1)) = val (xs.take k) + bp k * dg xs k := by
  have hd : xs.take (k + 1) = xs.take k ++ [dg xs k] := by
    rw [List.take_succ_eq_append_getElem h]
    unfold dg
    rw [List.getD_eq_getElem?_getD, List.getElem?_eq_getElem h]; rfl
  rw [hd, val_append, List.length_take, Nat.min_eq_left (by omega), val_cons, val_nil]; simp
theorem val_take_all (xs : List Nat) (k : Nat) (h : xs.length ≤ k) : val (xs.take k) = val xs := by rw [List.take_of_length_le h]
theorem val_take_drop (xs : List Nat) (k : Nat) (h : k ≤ xs.length) : val xs = val (xs.take k) + bp k * val (xs.drop k) := by
  have := val_append (xs.take k) (xs.drop k)
  rw [List.take_append_drop, List.length_take, Nat.min_eq_left h] at this
  exact this
theorem val_drop (xs : List Nat) (k : Nat) (h : k < xs.length) : val (xs.drop k) = dg xs k + 4294967296 * val (xs.drop (k + 1)) := by
  rw [List.drop_eq_getElem_cons h, val_cons]
  congr 1
  unfold dg
  rw [List.getD_eq_getElem?_getD, List.getElem?_eq_getElem h]; rfl
theorem val_lt {xs : List Nat} (h : Lt32 xs) : val xs < bp xs.length := by
  induction xs with
  | nil => simp [val, bp]
  | cons x xs ih =>
    have h1 := ih h.tail
    have h2 := h.head
    rw [val_cons, List.length_cons, bp_succ]
    omega
theorem val_replicate (n : Nat) : val (List.replicate n 0) = 0 := by
  induction n with
  | zero => rfl
  | succ n ih => rw [List.replicate_succ, val_cons, ih]
theorem val_set (xs : List Nat) (i v : Nat) (h : i < xs.length) : val (xs.set i v) + bp i * dg xs i = val xs + bp i * v := by
  induction xs generalizing i with
  | nil => simp at h
  | cons x xs ih =>
    cases i with
    | zero => simp only [List.set_cons_zero, val_cons, dg_zero, bp_zero]; omega
    | succ i =>
      have := ih i (by simpa using h)
      rw [List.set_cons_succ, val_cons, val_cons, dg_succ, bp_succ, Nat.mul_assoc, Nat.mul_assoc]
      omega

theorem digs_zero : digs 0 = [] := by rw [digs]; simp
theorem digs_pos {n : Nat} (h : n ≠ 0) : digs n = (n % 4294967296) :: digs (n / 4294967296) := by rw [digs]; simp [h]
theorem val_digs (n : Nat) : val (digs n) = n := by
  induction n using Nat.strongRecOn with
  | _ n ih =>
    by_cases h : n = 0
    · subst h; rw [digs_zero]; rfl
    · rw [digs_pos h, val_cons, ih _ (Nat.div_lt_self (by omega) (by omega))]
      omega
theorem digs_lt32 (n : Nat) : Lt32 (digs n) := by
  induction n using Nat.strongRecOn with
  | _ n ih =>
    by_cases h : n = 0
    · subst h; rw [digs_zero]; exact Lt32.nil
    · rw [digs_pos h]
      exact Lt32.cons (Nat.mod_lt _ (by omega)) (ih _ (Nat.div_lt_self (by omega) (by omega)))
theorem digs_eq_nil {n : Nat} : digs n = [] ↔ n = 0 := by
  constructor
  · intro h
    have := val_digs n
    rw [h] at this
    exact this.symm
  · rintro rfl; exact digs_zero
theorem digs_length_le {n L : Nat} (h : n < bp L) : (digs n).length ≤ L := by
  induction L generalizing n with
  | zero =>
    have : n = 0 := by unfold bp at h; omega
    subst this; rw [digs_zero]; exact Nat.le_refl _
  | succ L ih =>
    by_cases h0 : n = 0
    · subst h0; rw [digs_zero]; simp
    · rw [digs_pos h0, List.length_cons]
      have : n / 4294967296 < bp L := by
        rw [bp_succ] at h
        exact Nat.div_lt_of_lt_mul h
      have := ih this
      omega
theorem lt_bp_digs (n : Nat) : n < bp (digs n).length := by
  have := val_lt (digs_lt32 n)
  rwa [val_digs] at this
/-- The last digit of a number is not 0. -/
theorem digs_last {n : Nat} (h : n ≠ 0) : dg (digs n) ((digs n).length - 1) ≠ 0 := by
  induction n using Nat.strongRecOn with
  | _ n ih =>
    rw [digs_pos h, List.length_cons, Nat.add_sub_cancel]
    by_cases h0 : n / 4294967296 = 0
    · rw [h0, digs_zero]
      simp only [List.length_nil, dg_zero]
      omega
    · have h1 := ih _ (Nat.div_lt_self (by omega) (by omega)) h0
      have h2 : (digs (n / 4294967296)).length ≠ 0 := by
        intro h3
        exact h0 (digs_eq_nil.1 (List.eq_nil_of_length_eq_zero h3))
      obtain ⟨m, hm⟩ : ∃ m, (digs (n / 4294967296)).length = m + 1 := ⟨_, (Nat.succ_pred h2).symm⟩
      rw [hm, dg_succ]
      rw [hm] at h1
      exact h1
/-- Digits whose last one is not 0 are the digits of their value. -/
theorem digs_val {xs : List Nat} (h : Lt32 xs) (hl : xs = [] ∨ dg xs (xs.length - 1) ≠ 0) : digs (val xs) = xs := by
  induction xs with
  | nil => exact digs_zero
  | cons x xs ih =>
    have hl' : dg (x :: xs) xs.length ≠ 0 := by
      rcases hl with h0 | h0
      · cases h0
      · simpa using h0
    have hxs : xs = [] ∨ dg xs (xs.length - 1) ≠ 0 := by
      cases xs with
      | nil => exact .inl rfl
      | cons y ys => right; rw [List.length_cons, dg_succ] at hl'; simpa using hl'
    have hne : val (x :: xs) ≠ 0 := by
      intro h0
      rw [val_cons] at h0
      cases xs with
      | nil => simp [dg] at hl'; omega
      | cons y ys =>
        have h3 : val (y :: ys) = 0 := by omega
        have := ih h.tail hxs
        rw [h3, digs_zero] at this
        cases this
    rw [digs_pos hne, val_cons]
    have h1 := h.head
    rw [show (x + 4294967296 * val xs) % 4294967296 = x by omega, show (x + 4294967296 * val xs) / 4294967296 = val xs by omega, ih h.tail hxs]

def trimLen : List Nat → Nat → Nat
  | _, 0 => 0
  | xs, n + 1 => if dg xs n = 0 then trimLen xs n else n + 1
theorem trimLen_le (xs : List Nat) (n : Nat) : trimLen xs n ≤ n := by
  induction n with
  | zero => simp [trimLen]
  | succ n ih => unfold trimLen; split <;> omega
theorem trimLen_last (xs : List Nat) (n : Nat) : trimLen xs n = 0 ∨ dg xs (trimLen xs n - 1) ≠ 0 := by
  induction n with
  | zero => exact .inl rfl
  | succ n ih =>
    unfold trimLen
    split
    · exact ih
    · right; simpa
theorem trimLen_val (xs : List Nat) (n : Nat) (h : n ≤ xs.length) : val (xs.take (trimLen xs n)) = val (xs.take n) := by
  induction n with
  | zero => rfl
  | succ n ih =>
    unfold trimLen
    split
    · rename_i h0
      rw [ih (by omega), val_take_succ xs n (by omega), h0]; simp
    · rfl
/-- The digits without leading zero digits are the digits of the value. -/
theorem take_trimLen {xs : List Nat} (h : Lt32 xs) : xs.take (trimLen xs xs.length) = digs (val xs) := by
  have h1 := trimLen_val xs xs.length (Nat.le_refl _)
  rw [List.take_length] at h1
  have h2 := digs_val (h.take (trimLen xs xs.length)) (by
    have hle := trimLen_le xs xs.length
    by_cases h0 : trimLen xs xs.length = 0
    · left; rw [h0]; rfl
    · right
      rcases trimLen_last xs xs.length with h3 | h3
      · exact absurd h3 h0
      · rw [List.length_take, Nat.min_eq_left hle, dg_take, if_pos (by omega)]
        exact h3)
  rw [← h2, h1]
theorem val_zero_iff {xs : List Nat} (h : Lt32 xs) : val xs = 0 ↔ trimLen xs xs.length = 0 := by
  have h1 := take_trimLen h
  constructor
  · intro h0
    rw [h0, digs_zero] at h1
    have h2 := congrArg List.length h1
    rw [List.length_take, Nat.min_eq_left (trimLen_le _ _)] at h2
    exact h2
  · intro h0
    rw [h0] at h1
    exact digs_eq_nil.1 h1.symm
theorem digs_inj {a b : Nat} (h : digs a = digs b) : a = b := by rw [← val_digs a, ← val_digs b, h]
theorem lt_of_length_lt {a b : Nat} (h : (digs a).length < (digs b).length) : a < b := by
  rcases Nat.lt_or_ge a b with h1 | h1
  · exact h1
  · exfalso
    have h2 : (digs b).length ≤ (digs a).length := digs_length_le (Nat.lt_of_le_of_lt h1 (lt_bp_digs a))
    omega
theorem digs_length_mono {a b : Nat} (h : a ≤ b) : (digs a).length ≤ (digs b).length := digs_length_le (Nat.lt_of_le_of_lt h (lt_bp_digs b))

/-- -1, 0 or 1. -/
def cmpN (a b : Nat) : Int := if a < b then -1 else if a = b then 0 else 1
theorem cmpN_lt {a b : Nat} (h : a < b) : cmpN a b = -1 := if_pos h
theorem cmpN_eq (a : Nat) : cmpN a a = 0 := by unfold cmpN; simp
theorem cmpN_gt {a b : Nat} (h : b < a) : cmpN a b = 1 := by unfold cmpN; rw [if_neg (by omega), if_neg (by omega)]
theorem val_gt {xs ys : List Nat} (k : Nat) (hx : k < xs.length) (hy : k < ys.length) (hx32 : Lt32 xs) (hy32 : Lt32 ys)
    (heq : val (xs.drop (k + 1)) = val (ys.drop (k + 1))) (hgt : dg ys k < dg xs k) : val ys < val xs := by
  have h1 := val_take_drop xs k (by omega)
  have h2 := val_take_drop ys k (by omega)
  rw [val_drop xs k hx] at h1
  rw [val_drop ys k hy, ← heq] at h2
  have h3 := val_lt (hy32.take k)
  rw [List.length_take, Nat.min_eq_left (by omega)] at h3
  have h4 : bp k * (dg ys k + 4294967296 * val (xs.drop (k + 1)) + 1) ≤ bp k * (dg xs k + 4294967296 * val (xs.drop (k + 1))) := Nat.mul_le_mul_left _ (by omega)
  rw [Nat.mul_add, Nat.mul_one] at h4
  omega
theorem val_drop_eq {xs ys : List Nat} (k : Nat) (hx : k < xs.length) (hy : k < ys.length)
    (heq : val (xs.drop (k + 1)) = val (ys.drop (k + 1))) (he : dg xs k = dg ys k) : val (xs.drop k) = val (ys.drop k) := by
  rw [val_drop xs k hx, val_drop ys k hy, heq, he]

theorem take_set_of_le (zs : List Nat) (k s m : Nat) (h : m ≤ k) : (zs.set k s).take m = zs.take m := by
  rw [List.take_set, List.set_eq_of_length_le (by rw [List.length_take]; omega)]
/-- One more digit of a sum. -/
theorem add_round {zs xs ys : List Nat} {k c : Nat} (hz : k < zs.length) (hx : k < xs.length) (hy : k < ys.length)
    (h : val (zs.take k) + bp k * c = val (xs.take k) + val (ys.take k)) :
    val ((zs.set k ((dg xs k + dg ys k + c) % 4294967296)).take (k + 1)) + bp (k + 1) * ((dg xs k + dg ys k + c) / 4294967296) = val (xs.take (k + 1)) + val (ys.take (k + 1)) := by
  rw [val_take_succ _ k (by simpa using hz), val_take_succ xs k hx, val_take_succ ys k hy, take_set_of_le _ _ _ _ (Nat.le_refl _), dg_set, if_pos ⟨rfl, hz⟩, bp_succ]
  have e := Nat.div_add_mod (dg xs k + dg ys k + c) 4294967296
  generalize (dg xs k + dg ys k + c) % 4294967296 = s at *
  generalize (dg xs k + dg ys k + c) / 4294967296 = d at *
  have e2 : bp k * (4294967296 * d + s) = bp k * (dg xs k + dg ys k + c) := by rw [e]
  simp only [Nat.mul_add] at e2
  rw [Nat.mul_comm 4294967296 (bp k), Nat.mul_assoc]
  omega
theorem add_round2 {zs xs : List Nat} {k c q : Nat} (hz : k < zs.length) (hx : k < xs.length)
    (h : val (zs.take k) + bp k * c = val (xs.take k) + q) :
    val ((zs.set k ((dg xs k + 0 + c) % 4294967296)).take (k + 1)) + bp (k + 1) * ((dg xs k + 0 + c) / 4294967296) = val (xs.take (k + 1)) + q := by
  rw [val_take_succ _ k (by simpa using hz), val_take_succ xs k hx, take_set_of_le _ _ _ _ (Nat.le_refl _), dg_set, if_pos ⟨rfl, hz⟩, bp_succ]
  have e := Nat.div_add_mod (dg xs k + 0 + c) 4294967296
  generalize (dg xs k + 0 + c) % 4294967296 = s at *
  generalize (dg xs k + 0 + c) / 4294967296 = d at *
  have e2 : bp k * (4294967296 * d + s) = bp k * (dg xs k + 0 + c) := by rw [e]
  simp only [Nat.mul_add] at e2
  rw [Nat.mul_comm 4294967296 (bp k), Nat.mul_assoc]
  omega
theorem add_last {zs : List Nat} {n c : Nat} (hz : zs.length = n + 1) : val (zs.set n c) = val (zs.take n) + bp n * c := by
  have h1 : (zs.set n c).take (n + 1) = zs.set n c := List.take_of_length_le (by simp [hz])
  rw [← h1, val_take_succ _ n (by simp [hz]), take_set_of_le _ _ _ _ (Nat.le_refl _), dg_set, if_pos ⟨rfl, by omega⟩]
theorem lt32_replicate (n : Nat) : Lt32 (List.replicate n 0) := fun k => by rw [dg_replicate]; split <;> omega

theorem val_take_succ_any (xs : List Nat) (k : Nat) : val (xs.take (k + 1)) = val (xs.take k) + bp k * dg xs k := by
  rcases Nat.lt_or_ge k xs.length with h | h
  · exact val_take_succ xs k h
  · rw [val_take_all xs k h, val_take_all xs (k + 1) (by omega), dg_beyond xs k h]; simp
def borrow (x y b : Nat) : Nat := if x < y + b then 1 else 0
theorem borrow_le (x y b : Nat) : borrow x y b ≤ 1 := by unfold borrow; split <;> omega
theorem borrow_eq {x y b : Nat} (hx : x < 4294967296) (hy : y < 4294967296) (hb : b ≤ 1) : (x + 8589934592 - y - b) % 4294967296 + y + b = x + 4294967296 * borrow x y b := by
  unfold borrow; split <;> omega
/-- One more digit of a difference. -/
theorem sub_round {zs xs ys : List Nat} {k b : Nat} (hz : k < zs.length) (hx : dg xs k < 4294967296) (hy : dg ys k < 4294967296) (hb : b ≤ 1)
    (h : val (zs.take k) + val (ys.take k) = val (xs.take k) + bp k * b) (hle : bp k * b ≤ bp k) :
    val ((zs.set k ((dg xs k + 8589934592 - dg ys k - b) % 4294967296)).take (k + 1)) + val (ys.take (k + 1)) = val (xs.take (k + 1)) + bp (k + 1) * borrow (dg xs k) (dg ys k) b := by
  rw [val_take_succ _ k (by simpa using hz), val_take_succ_any xs k, val_take_succ_any ys k, take_set_of_le _ _ _ _ (Nat.le_refl _), dg_set, if_pos ⟨rfl, hz⟩, bp_succ]
  have e := borrow_eq hx hy hb
  generalize (dg xs k + 8589934592 - dg ys k - b) % 4294967296 = s at *
  generalize borrow (dg xs k) (dg ys k) b = d at *
  have e2 : bp k * (s + dg ys k + b) = bp k * (dg xs k + 4294967296 * d) := by rw [e]
  simp only [Nat.mul_add] at e2
  rw [Nat.mul_comm 4294967296 (bp k), Nat.mul_assoc]
  omega
theorem sub_last {zs : List Nat} {n b p q : Nat} (hz : zs.length = n) (hl : Lt32 zs) (hb : b ≤ 1) (hle : q ≤ p) (h : val zs + q = p + bp n * b) : val zs = p - q := by
  have h1 := val_lt hl
  rw [hz] at h1
  rcases Nat.eq_zero_or_pos b with h0 | h0
  · subst h0; simp at h; omega
  · have : b = 1 := by omega
    subst this
    simp at h
    omega

/-- One digit of a product: x * y + d + c. -/
theorem mul_digits (x y d c : Nat) (hx : x < 4294967296) (hy : y < 4294967296) (hd : d < 4294967296) (hc : c < 4294967296) :
    ∃ hi lo s1 c1 s2 c2 : Nat, (x * y / 4294967296 = hi ∧ x * y % 4294967296 = lo ∧ (lo + d + 0) % 4294967296 = s1 ∧ (lo + d + 0) / 4294967296 = c1 ∧ (s1 + c + 0) % 4294967296 = s2 ∧ (s1 + c + 0) / 4294967296 = c2) ∧
      lo < 4294967296 ∧ s1 < 4294967296 ∧ s2 < 4294967296 ∧ c1 ≤ 1 ∧ c2 ≤ 1 ∧ hi + c1 + c2 < 4294967296 ∧ s2 + 4294967296 * (hi + c1 + c2) = x * y + d + c := by
  refine ⟨_, _, _, _, _, _, ⟨rfl, rfl, rfl, rfl, rfl, rfl⟩, ?_⟩
  have hxy : x * y ≤ 4294967295 * 4294967295 := Nat.mul_le_mul (by omega) (by omega)
  generalize x * y = m at *
  omega
/-- One round of a product's inner loop. -/
theorem mul_round {zs ys : List Nat} {i k x c s2 c' V : Nat} (hz : i + k < zs.length)
    (h : val zs + bp (i + k) * c = V + bp i * (x * val (ys.take k)))
    (e : s2 + 4294967296 * c' = x * dg ys k + dg zs (i + k) + c) :
    val (zs.set (i + k) s2) + bp (i + (k + 1)) * c' = V + bp i * (x * val (ys.take (k + 1))) := by
  have h1 := val_set zs (i + k) s2 hz
  rw [val_take_succ_any ys k, show i + (k + 1) = (i + k) + 1 by omega, bp_succ]
  have e2 : bp (i + k) * (s2 + 4294967296 * c') = bp (i + k) * (x * dg ys k + dg zs (i + k) + c) := by rw [e]
  simp only [Nat.mul_add] at e2 ⊢
  have e3 : bp i * (x * (bp k * dg ys k)) = bp (i + k) * (x * dg ys k) := by
    rw [bp_add]
    rw [Nat.mul_left_comm x (bp k), ← Nat.mul_assoc]
  rw [e3, Nat.mul_comm 4294967296 (bp (i + k)), Nat.mul_assoc]
  omega
end Go.Proofs.Ytnknidfpkmnncaa
