/- The comparison and the test that checkpoly.Normal hands to the library. -/
import Derived.Test.YtnknidfpkmnncaaC1
namespace Go.Proofs.Ytnknidfpkmnncaa
open Go.RowKit

set_option maxHeartbeats 1000000 in
theorem cmp46_any (neg neg2 : Bool) (A A2 : Option Addr) (n c n2 c2 : Nat) (e f : Ex) (w : World) :
    Calls Try.prog 46 #[.agg #[.bool neg, .slice A n c, .int .i64 e.1, .int .i64 e.2.1, .int .i64 e.2.2.1, .int .i64 e.2.2.2], .agg #[.bool neg2, .slice A2 n2 c2, .int .i64 f.1, .int .i64 f.2.1, .int .i64 f.2.2.1, .int .i64 f.2.2.2]] w (ValP (.int .i64 (cmpE f e)) w) := by
  have hbw := below_box2 w (.cells #[.bool neg, .slice A n c, .int .i64 e.1, .int .i64 e.2.1, .int .i64 e.2.2.1, .int .i64 e.2.2.2] 80) (.cells #[.bool neg2, .slice A2 n2 c2, .int .i64 f.1, .int .i64 f.2.1, .int .i64 f.2.2.1, .int .i64 f.2.2.2] 80)
  go_enter Try.func46, Try.ntmps46
  go_wp2_with fail
  refine (before_any f e _).mono ?_
  rintro e' w1 ⟨rfl, hb1⟩
  go_wp2
  go_ret
  exact ⟨rfl, hbw.trans (hb1.mono (by simp; omega))⟩

set_option maxHeartbeats 1000000 in
theorem zero50_any (B : Nat) (neg : Bool) (A : Option Addr) (n c : Nat) (xs : List Nat) (e : Ex) (w : World) (h : Dig B w A n c xs) :
    Calls Try.prog 50 #[.agg #[.bool neg, .slice A n c, .int .i64 e.1, .int .i64 e.2.1, .int .i64 e.2.2.1, .int .i64 e.2.2.2]] w (ValP (.bool (iv neg (val xs) == 0)) w) := by
  have hbw : Below w.heap.size w (w.alloc (.cells #[.bool neg, .slice A n c, .int .i64 e.1, .int .i64 e.2.1, .int .i64 e.2.2.1, .int .i64 e.2.2.2] 80)) := (Below.refl _ _).alloc (Nat.le_refl _) _
  have hx := h.below hbw (Nat.le_refl _)
  have HE := Lib.hid (show ((iv neg (val xs)).sign == 0) = (iv neg (val xs) == 0) by rw [Bool.eq_iff_iff, beq_iff_eq, beq_iff_eq]; exact Int.sign_eq_zero_iff_zero)
  go_enter Try.func50, Try.ntmps50
  go_wp2_with fail
  refine (isign_any B _ _ _ _ _ _ hx).mono ?_
  rintro e' w1 ⟨rfl, hb1⟩
  go_wp2
  go_ret
  exact ⟨by rw [← HE.out]; rfl, hbw.trans (hb1.mono (by simp))⟩
end Go.Proofs.Ytnknidfpkmnncaa
