/- CheckpolyCompare: the law. -/
import Derived.Test.YtnknidfpkmnncaaD8
namespace Go.Proofs.Ytnknidfpkmnncaa
open Go.RowKit

theorem cmpI_neg (a b : Int) : cmpI b a = -cmpI a b := by
  unfold cmpI
  rcases Int.lt_trichotomy a b with h | h | h
  · rw [if_neg (by omega), if_neg (by omega), if_pos h]
    rfl
  · subst h; simp
  · rw [if_pos h, if_neg (by omega), if_neg (by omega)]
theorem cmpI_one {a b : Int} : cmpI a b = 1 ↔ b < a := by
  unfold cmpI
  constructor
  · intro h
    split at h
    · omega
    · split at h
      · omega
      · omega
  · intro h
    rw [if_neg (by omega), if_neg (by omega)]
theorem cmpL_neg (a b : List Tm) : cmpL b a = -cmpL a b := by
  induction a generalizing b with
  | nil => cases b <;> rfl
  | cons p a ih =>
    cases b with
    | nil => rfl
    | cons q b =>
      unfold cmpL
      rw [cmpE_neg p.2 q.2, cmpI_neg p.1 q.1, ih b]
      by_cases h1 : cmpE p.2 q.2 = 0
      · by_cases h2 : cmpI p.1 q.1 = 0
        · simp [h1, h2]
        · simp [h1, h2]
      · simp [h1]
theorem cmpL_same0 (a : List Tm) : cmpL a a = 0 := by
  induction a with
  | nil => rfl
  | cons p a ih => rw [cmpL_same, ih]
theorem cmpL_zero {a b : List Tm} : cmpL a b = 0 ↔ a = b := by
  constructor
  · intro h
    induction a generalizing b with
    | nil => cases b with
      | nil => rfl
      | cons => simp [cmpL] at h
    | cons p a ih =>
      cases b with
      | nil => simp [cmpL] at h
      | cons q b =>
        unfold cmpL at h
        by_cases h1 : cmpE p.2 q.2 = 0
        · by_cases h2 : cmpI p.1 q.1 = 0
          · rw [if_neg (by simpa using h1), if_neg (by simpa using h2)] at h
            rw [ih h, Prod.ext (cmpI_zero.1 h2) (cmpE_zero.1 h1)]
          · rw [if_neg (by simpa using h1), if_pos h2] at h
            exact absurd h h2
        · rw [if_pos h1] at h
          exact absurd h h1
  · rintro rfl
    exact cmpL_same0 a
theorem cmpE_one_trans {e f g : Ex} (h1 : cmpE e f = 1) (h2 : cmpE f g = 1) : cmpE e g = 1 := by
  have h3 := cmpE_trans (show 0 ≤ cmpE e f by omega) (show 0 ≤ cmpE f g by omega)
  rcases cmpE_range e g with h | h | h
  · omega
  · have h4 := cmpE_zero.1 h
    subst h4
    rw [cmpE_neg f e] at h1
    omega
  · exact h
theorem cmpI_one_trans {a b c : Int} (h1 : cmpI a b = 1) (h2 : cmpI b c = 1) : cmpI a c = 1 := by
  rw [cmpI_one] at *
  omega
theorem cmpL_one {p q : Tm} {a b : List Tm} (h : cmpL (p :: a) (q :: b) = 1) : cmpE p.2 q.2 = 1 ∨ (p.2 = q.2 ∧ cmpI p.1 q.1 = 1) ∨ (p = q ∧ cmpL a b = 1) := by
  unfold cmpL at h
  by_cases h1 : cmpE p.2 q.2 = 0
  · by_cases h2 : cmpI p.1 q.1 = 0
    · rw [if_neg (by simpa using h1), if_neg (by simpa using h2)] at h
      exact .inr (.inr ⟨Prod.ext (cmpI_zero.1 h2) (cmpE_zero.1 h1), h⟩)
    · rw [if_neg (by simpa using h1), if_pos h2] at h
      exact .inr (.inl ⟨cmpE_zero.1 h1, h⟩)
  · rw [if_pos h1] at h
    exact .inl h
theorem cmpL_of_E {p q : Tm} {a b : List Tm} (h : cmpE p.2 q.2 = 1) : cmpL (p :: a) (q :: b) = 1 := by
  unfold cmpL
  rw [if_pos (by omega), h]
theorem cmpL_of_I {p q : Tm} {a b : List Tm} (h : p.2 = q.2) (h2 : cmpI p.1 q.1 = 1) : cmpL (p :: a) (q :: b) = 1 := by
  unfold cmpL
  rw [if_neg (by simpa using cmpE_zero.2 h), if_pos (by omega), h2]
theorem cmpL_one_trans {a b c : List Tm} (h1 : cmpL a b = 1) (h2 : cmpL b c = 1) : cmpL a c = 1 := by
  induction a generalizing b c with
  | nil => cases b <;> simp [cmpL] at h1
  | cons p a ih =>
    cases c with
    | nil => rfl
    | cons r c =>
      cases b with
      | nil => simp [cmpL] at h2
      | cons q b =>
        rcases cmpL_one h1 with e1 | ⟨e1, i1⟩ | ⟨rfl, t1⟩
        · rcases cmpL_one h2 with e2 | ⟨e2, i2⟩ | ⟨rfl, t2⟩
          · exact cmpL_of_E (cmpE_one_trans e1 e2)
          · exact cmpL_of_E (by rw [← e2]; exact e1)
          · exact cmpL_of_E e1
        · rcases cmpL_one h2 with e2 | ⟨e2, i2⟩ | ⟨rfl, t2⟩
          · exact cmpL_of_E (by rw [e1]; exact e2)
          · exact cmpL_of_I (e1.trans e2) (cmpI_one_trans i1 i2)
          · exact cmpL_of_I e1 i1
        · rcases cmpL_one h2 with e2 | ⟨e2, i2⟩ | ⟨rfl, t2⟩
          · exact cmpL_of_E e2
          · exact cmpL_of_I e2 i2
          · rw [cmpL_same]
            exact ih t1 t2
theorem cmpI_range (a b : Int) : cmpI a b = -1 ∨ cmpI a b = 0 ∨ cmpI a b = 1 := by
  unfold cmpI
  split
  · exact .inl rfl
  · split
    · exact .inr (.inl rfl)
    · exact .inr (.inr rfl)
theorem cmpL_range (a b : List Tm) : cmpL a b = -1 ∨ cmpL a b = 0 ∨ cmpL a b = 1 := by
  induction a generalizing b with
  | nil => cases b <;> simp [cmpL]
  | cons p a ih =>
    cases b with
    | nil => simp [cmpL]
    | cons q b =>
      unfold cmpL
      split
      · exact cmpE_range _ _
      · split
        · exact cmpI_range _ _
        · exact ih b
theorem cmpL_trans {a b c : List Tm} (h : cmpL a b = cmpL b c) : cmpL a c = cmpL a b := by
  rcases cmpL_range a b with h1 | h1 | h1
  · have h2 : cmpL c b = 1 := by rw [cmpL_neg b c, ← h, h1]; rfl
    have h3 : cmpL b a = 1 := by rw [cmpL_neg a b, h1]; rfl
    have h4 := cmpL_one_trans h2 h3
    rw [cmpL_neg c a, h4, h1]
  · have h2 := cmpL_zero.1 h1
    subst h2
    rw [h]
  · rw [h1, cmpL_one_trans h1 (h ▸ h1)]

end Go.Proofs.Ytnknidfpkmnncaa
