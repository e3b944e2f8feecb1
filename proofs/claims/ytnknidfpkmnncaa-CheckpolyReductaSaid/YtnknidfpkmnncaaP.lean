/- Plain laws of exponents, of their order, and of sorted lists. -/
namespace Go.Proofs.Ytnknidfpkmnncaa

/-- Four exponents. -/
abbrev Ex := Int × Int × Int × Int
def ex (e : Ex) : Nat → Int
  | 0 => e.1
  | 1 => e.2.1
  | 2 => e.2.2.1
  | _ => e.2.2.2
def validTo (e : Ex) : Nat → Bool
  | 0 => true
  | k + 1 => validTo e k && decide (0 ≤ ex e k)
def validE (e : Ex) : Bool := validTo e 4
def cmpTo (e f : Ex) : Nat → Int
  | 0 => 0
  | k + 1 => if ex e k < ex f k then -1 else if ex f k < ex e k then 1 else cmpTo e f k
def cmpE (e f : Ex) : Int := cmpTo e f 4

theorem validE_false {e : Ex} {k : Nat} (hk : k < 4) (h : ex e k < 0) : validE e = false := by
  match k, hk, h with
  | 0, _, h => simp only [ex] at h; simp [validE, validTo, ex]; omega
  | 1, _, h => simp only [ex] at h; simp [validE, validTo, ex]; omega
  | 2, _, h => simp only [ex] at h; simp [validE, validTo, ex]; omega
  | 3, _, h => simp only [ex] at h; simp [validE, validTo, ex]; omega
theorem validE_true {e : Ex} (h : ∀ j, j < 4 → 0 ≤ ex e j) : validE e = true := by
  simp [validE, validTo, h]
theorem validE_iff {e : Ex} : validE e = true ↔ ∀ j, j < 4 → 0 ≤ ex e j := by
  constructor
  · intro h j hj
    rcases Int.lt_or_le (ex e j) 0 with h1 | h1
    · rw [validE_false hj h1] at h; cases h
    · exact h1
  · exact validE_true
theorem cmpTo_lt {e f : Ex} {k : Nat} (hk : k < 4) (h : ∀ j, k < j → j < 4 → ex e j = ex f j) (hlt : ex e k < ex f k) : cmpE e f = -1 := by
  unfold cmpE
  match k, hk, h, hlt with
  | 3, _, _, hlt => simp [cmpTo, hlt]
  | 2, _, h, hlt => have h3 := h 3 (by omega) (by omega); simp [cmpTo, hlt, h3]
  | 1, _, h, hlt => have h3 := h 3 (by omega) (by omega); have h2 := h 2 (by omega) (by omega); simp [cmpTo, hlt, h3, h2]
  | 0, _, h, hlt => have h3 := h 3 (by omega) (by omega); have h2 := h 2 (by omega) (by omega); have h1 := h 1 (by omega) (by omega); simp [cmpTo, hlt, h3, h2, h1]
theorem cmpTo_gt {e f : Ex} {k : Nat} (hk : k < 4) (h : ∀ j, k < j → j < 4 → ex e j = ex f j) (hlt : ex f k < ex e k) : cmpE e f = 1 := by
  have hn : ¬ ex e k < ex f k := by omega
  unfold cmpE
  match k, hk, h, hlt, hn with
  | 3, _, _, hlt, hn => simp [cmpTo, hlt, hn]
  | 2, _, h, hlt, hn => have h3 := h 3 (by omega) (by omega); simp [cmpTo, hlt, h3, hn]
  | 1, _, h, hlt, hn => have h3 := h 3 (by omega) (by omega); have h2 := h 2 (by omega) (by omega); simp [cmpTo, hlt, h3, h2, hn]
  | 0, _, h, hlt, hn => have h3 := h 3 (by omega) (by omega); have h2 := h 2 (by omega) (by omega); have h1 := h 1 (by omega) (by omega); simp [cmpTo, hlt, h3, h2, h1, hn]
theorem cmpTo_eq {e f : Ex} (h : ∀ j, j < 4 → ex e j = ex f j) : cmpE e f = 0 := by
  simp [cmpE, cmpTo, h]
theorem cmpTo_neg (e f : Ex) (k : Nat) : cmpTo f e k = -cmpTo e f k := by
  induction k with
  | zero => rfl
  | succ k ih =>
    unfold cmpTo
    rcases Int.lt_trichotomy (ex e k) (ex f k) with h | h | h
    · rw [if_neg (by omega), if_pos h, if_pos h]; rfl
    · rw [if_neg (by omega), if_neg (by omega), if_neg (by omega), if_neg (by omega)]; exact ih
    · rw [if_pos h, if_neg (by omega), if_pos h]
theorem cmpE_neg (e f : Ex) : cmpE f e = -cmpE e f := cmpTo_neg e f 4
theorem cmpTo_trans {e f g : Ex} (k : Nat) (h1 : 0 ≤ cmpTo e f k) (h2 : 0 ≤ cmpTo f g k) : 0 ≤ cmpTo e g k ∧ (cmpTo e g k = 0 → cmpTo e f k = 0 ∧ cmpTo f g k = 0) := by
  induction k with
  | zero => exact ⟨by simp [cmpTo], fun _ => ⟨rfl, rfl⟩⟩
  | succ k ih =>
    unfold cmpTo at h1 h2 ⊢
    rcases Int.lt_trichotomy (ex e k) (ex f k) with h | h | h
    · rw [if_pos h] at h1; omega
    · rw [if_neg (by omega), if_neg (by omega)] at h1
      rcases Int.lt_trichotomy (ex f k) (ex g k) with h' | h' | h'
      · rw [if_pos h'] at h2; omega
      · rw [if_neg (by omega), if_neg (by omega)] at h2
        rw [if_neg (by omega), if_neg (by omega), if_neg (by omega), if_neg (by omega), if_neg (by omega), if_neg (by omega)]
        exact ih h1 h2
      · rw [if_neg (show ¬ ex e k < ex g k by omega), if_pos (show ex g k < ex e k by omega)]
        exact ⟨by omega, fun h3 => by omega⟩
    · rcases Int.lt_trichotomy (ex f k) (ex g k) with h' | h' | h'
      · rw [if_pos h'] at h2; omega
      · rw [if_neg (show ¬ ex e k < ex g k by omega), if_pos (show ex g k < ex e k by omega)]
        exact ⟨by omega, fun h3 => by omega⟩
      · rw [if_neg (show ¬ ex e k < ex g k by omega), if_pos (show ex g k < ex e k by omega)]
        exact ⟨by omega, fun h3 => by omega⟩
theorem cmpE_trans {e f g : Ex} (h1 : 0 ≤ cmpE e f) (h2 : 0 ≤ cmpE f g) : 0 ≤ cmpE e g := (cmpTo_trans 4 h1 h2).1
theorem cmpE_zero {e f : Ex} : cmpE e f = 0 ↔ e = f := by
  constructor
  · intro h
    have hk : ∀ k, k < 4 → ex e k = ex f k := by
      have h3 : ex e 3 = ex f 3 := by
        rcases Int.lt_trichotomy (ex e 3) (ex f 3) with h1 | h1 | h1
        · rw [cmpTo_lt (k := 3) (by omega) (fun j _ _ => by omega) h1] at h; omega
        · exact h1
        · rw [cmpTo_gt (k := 3) (by omega) (fun j _ _ => by omega) h1] at h; omega
      have h2 : ex e 2 = ex f 2 := by
        have hj : ∀ j, 2 < j → j < 4 → ex e j = ex f j := fun j _ _ => by
          rw [show j = 3 by omega]; exact h3
        rcases Int.lt_trichotomy (ex e 2) (ex f 2) with h1 | h1 | h1
        · rw [cmpTo_lt (k := 2) (by omega) hj h1] at h; omega
        · exact h1
        · rw [cmpTo_gt (k := 2) (by omega) hj h1] at h; omega
      have h1 : ex e 1 = ex f 1 := by
        have hj : ∀ j, 1 < j → j < 4 → ex e j = ex f j := fun j _ _ => by
          rcases (show j = 2 ∨ j = 3 by omega) with h5 | h5
          · rw [h5]; exact h2
          · rw [h5]; exact h3
        rcases Int.lt_trichotomy (ex e 1) (ex f 1) with h1 | h1 | h1
        · rw [cmpTo_lt (k := 1) (by omega) hj h1] at h; omega
        · exact h1
        · rw [cmpTo_gt (k := 1) (by omega) hj h1] at h; omega
      have h0 : ex e 0 = ex f 0 := by
        have hj : ∀ j, 0 < j → j < 4 → ex e j = ex f j := fun j _ _ => by
          rcases (show j = 1 ∨ j = 2 ∨ j = 3 by omega) with h5 | h5 | h5
          · rw [h5]; exact h1
          · rw [h5]; exact h2
          · rw [h5]; exact h3
        rcases Int.lt_trichotomy (ex e 0) (ex f 0) with h1 | h1 | h1
        · rw [cmpTo_lt (k := 0) (by omega) hj h1] at h; omega
        · exact h1
        · rw [cmpTo_gt (k := 0) (by omega) hj h1] at h; omega
      intro k hk
      rcases (show k = 0 ∨ k = 1 ∨ k = 2 ∨ k = 3 by omega) with h5 | h5 | h5 | h5 <;> rw [h5] <;> assumption
    obtain ⟨a, b, c, d⟩ := e
    obtain ⟨a2, b2, c2, d2⟩ := f
    have e0 := hk 0 (by omega); have e1 := hk 1 (by omega); have e2 := hk 2 (by omega); have e3 := hk 3 (by omega)
    simp only [ex] at e0 e1 e2 e3
    rw [e0, e1, e2, e3]
  · rintro rfl
    exact cmpTo_eq fun _ _ => rfl
theorem cmpE_range (e f : Ex) : cmpE e f = -1 ∨ cmpE e f = 0 ∨ cmpE e f = 1 := by
  unfold cmpE
  have : ∀ k, cmpTo e f k = -1 ∨ cmpTo e f k = 0 ∨ cmpTo e f k = 1 := by
    intro k
    induction k with
    | zero => right; left; rfl
    | succ k ih =>
      unfold cmpTo
      split
      · left; rfl
      · split
        · right; right; rfl
        · exact ih
  exact this 4

section
variable {α : Type} {r : α → α → Prop}
theorem insert_sorted (htr : ∀ a b c, r a b → r b c → r a c) {X1 X2 : List α} {x : α} (hs : (X1 ++ X2).Pairwise r) (h2 : ∀ y ∈ X2, r x y) (h1 : ∀ Y s, X1 = Y ++ [s] → r s x) : (X1 ++ x :: X2).Pairwise r := by
  rw [List.pairwise_append] at hs ⊢
  obtain ⟨p1, p2, p3⟩ := hs
  refine ⟨p1, List.pairwise_cons.2 ⟨h2, p2⟩, fun u hu v hv => ?_⟩
  rcases List.mem_cons.1 hv with rfl | hv
  · rcases List.eq_nil_or_concat X1 with h0 | ⟨Y, s, hY⟩
    · rw [h0] at hu; cases hu
    · rw [List.concat_eq_append] at hY
      have hs := h1 Y s hY
      rw [hY, List.mem_append] at hu
      rcases hu with hu | hu
      · rw [hY, List.pairwise_append] at p1
        exact htr _ _ _ (p1.2.2 u hu s (by simp)) hs
      · rw [List.mem_singleton] at hu
        rw [hu]; exact hs
  · exact p3 u hu v hv
end
theorem perm_insert {α : Type} (X1 X2 Y : List α) (x : α) : ((X1 ++ x :: X2) ++ Y).Perm ((X1 ++ X2) ++ x :: Y) := by
  rw [List.append_assoc, List.cons_append]
  refine (List.perm_middle).trans ?_
  refine List.Perm.trans ?_ (List.perm_middle).symm
  rw [List.append_assoc]
theorem at_len {α : Type} (U : List α) (s : α) (Q : List α) (m : Nat) (h : U.length = m) : (U ++ s :: Q)[m]? = some s := by
  subst h; simp
theorem at_len1 {α : Type} (U : List α) (s x : α) (Q : List α) (m : Nat) (h : U.length = m) : (U ++ s :: x :: Q)[m + 1]? = some x := by
  subst h; simp
theorem swap_len {α : Type} (U : List α) (s x : α) (Q : List α) (m : Nat) (h : U.length = m) : ((U ++ s :: x :: Q).set (m + 1) s).set m x = U ++ x :: s :: Q := by
  subst h
  rw [List.set_append_right _ _ (by omega), List.set_append_right _ _ (by omega)]
  simp
end Go.Proofs.Ytnknidfpkmnncaa
