/- natural.trim cuts leading zero digits off. -/
import Derived.Test.YtnknidfpkmnncaaA0
namespace Go.Proofs.Ytnknidfpkmnncaa
open Go.RowKit

/-- What comes back reads as the digits of m; the world is as it was. -/
def NatQ (B m : Nat) (w : World) (e : Ending) (w' : World) : Prop :=
  ∃ A' n' c', e = .returned (.slice A' n' c') ∧ Dig B w A' n' c' (digs m) ∧ w = w'
/-- What comes back reads as the digits of m; what existed is as it was. -/
def NatP (B m : Nat) (w : World) (e : Ending) (w' : World) : Prop :=
  ∃ A' n' c', e = .returned (.slice A' n' c') ∧ Dig B w' A' n' c' (digs m) ∧ Below w.heap.size w w'

theorem NatQ.mk {B : Nat} {A : Option Addr} {n c : Nat} {xs : List Nat} {w : World} (h : Dig B w A n c xs) {m : Nat} (hm : trimLen xs n = m) : NatQ B (val xs) w (.returned (.slice A m c)) w :=
  ⟨A, m, c, rfl, by
    rw [← take_trimLen h.dig, h.len, hm]; exact h.take (by rw [← hm]; exact trimLen_le _ _), rfl⟩
theorem NatQ.nil {B : Nat} {A : Option Addr} {n c : Nat} {xs : List Nat} {w : World} (h : Dig B w A n c xs) (hm : trimLen xs n = 0) : NatQ B (val xs) w (.returned (.slice none 0 0)) w :=
  ⟨none, 0, 0, rfl, by rw [← take_trimLen h.dig, h.len, hm]; exact Dig.nil, rfl⟩

set_option maxHeartbeats 400000 in
theorem trim_any (B : Nat) (A : Option Addr) (n c : Nat) (xs : List Nat) (w : World) (h : Dig B w A n c xs) :
    Calls Try.prog 77 #[.slice A n c] w (NatQ B (val xs) w) := by
  have hcap := h.cap
  have hbd := h.bd
  go_enter Try.func77, Try.ntmps77
  go_wp2
  go_loop [3] (fun i => ∃ k : Nat, k ≤ n ∧ i = .int .i64 k ∧ Hid (trimLen xs n = trimLen xs k)) (fun i => (intOf i).toNat)
  case atStart => exact ⟨n, Nat.le_refl _, rfl, Lib.hid rfl⟩
  case round =>
    obtain ⟨k, hk, rfl, H⟩ := hrel
    rcases k with _ | k
    · go_wp2
      go_ret
      exact NatQ.nil h H.out
    · obtain ⟨ad, rfl, hc⟩ := h.cell k (by omega)
      by_cases hz : dg xs k = 0
      · have H2 : Hid (trimLen xs n = trimLen xs k) := by
          have h1 := H.out
          rw [trimLen, if_pos hz] at h1
          exact h1
        rw [hz] at hc
        clear hz H
        go_wp2
        go_round
        case rel => exact ⟨k, by omega, by go_num, H2⟩
        case measure => simp [intOf]
      · have H2 : Hid (trimLen xs n = k + 1) := by
          have h1 := H.out
          rw [trimLen, if_neg hz] at h1
          exact h1
        have hz' : (((dg xs k : Nat) : Int) == 0) = false := by rw [beq_eq_false_iff_ne]; omega
        clear H hz
        go_wp2
        go_ret
        exact NatQ.mk h H2.out
end Go.Proofs.Ytnknidfpkmnncaa
