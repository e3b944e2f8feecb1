/- integer.made, From, Normal, Of, Sign, Neg. -/
import Derived.Test.YtnknidfpkmnncaaA7
namespace Go.Proofs.Ytnknidfpkmnncaa
open Go.RowKit

/-- The integer of a sign and digits. -/
def iv (neg : Bool) (m : Nat) : Int := if neg then -(m : Int) else m
/-- What comes back reads as the integer z in canonical form; what existed is as it was. -/
def IntP (B : Nat) (z : Int) (w : World) (e : Ending) (w' : World) : Prop :=
  ∃ A' n' c', e = .returned (.agg #[.bool (decide (z < 0)), .slice A' n' c']) ∧ Dig B w' A' n' c' (digs z.natAbs) ∧ Below w.heap.size w w'
theorem iv_natAbs (neg : Bool) (m : Nat) : (iv neg m).natAbs = m := by unfold iv; split <;> omega
theorem iv_neg (neg : Bool) (m : Nat) : decide (iv neg m < 0) = (neg && decide (0 < m)) := by
  unfold iv
  cases neg
  · simp
  · simp

theorem made_any (B : Nat) (neg : Bool) (A : Option Addr) (n c m : Nat) (w : World) (h : Dig B w A n c (digs m)) :
    Calls Try.prog 57 #[.bool neg, .slice A n c] w (IntP B (iv neg m) w) := by
  have hn : (neg && decide ((0 : Int) < n)) = decide (iv neg m < 0) := by
    rw [iv_neg]
    congr 1
    have hl := h.len
    rw [decide_eq_decide]
    constructor
    · intro h1
      rcases Nat.eq_zero_or_pos m with h2 | h2
      · subst h2; rw [digs_zero] at hl; simp at hl; omega
      · exact h2
    · intro h1
      rcases Nat.eq_zero_or_pos n with h2 | h2
      · have := digs_eq_nil.1 (List.eq_nil_of_length_eq_zero (hl.trans h2)); omega
      · omega
  have HN := Lib.hid hn
  clear hn
  cases neg
  · go_enter Try.func57, Try.ntmps57
    go_wp2
    refine bodyPost_ret (v := .agg #[.bool false, .slice A n c]) (by simp [results, Try.results57, go_sem]) rfl ?_
    refine ⟨A, n, c, by rw [← HN.out]; rfl, ?_, ?_⟩
    · rw [iv_natAbs]
      exact h.below ((Below.refl _ _).alloc (Nat.le_refl _) _) (Nat.le_refl _)
    · exact (Below.refl _ _).alloc (Nat.le_refl _) _
  · go_enter Try.func57, Try.ntmps57
    go_wp2
    refine bodyPost_ret (v := .agg #[.bool (decide (0 < n)), .slice A n c]) (by simp [results, Try.results57, go_sem]) rfl ?_
    refine ⟨A, n, c, by rw [← HN.out]; simp, ?_, ?_⟩
    · rw [iv_natAbs]
      exact h.below ((Below.refl _ _).alloc (Nat.le_refl _) _) (Nat.le_refl _)
    · exact (Below.refl _ _).alloc (Nat.le_refl _) _
end Go.Proofs.Ytnknidfpkmnncaa
