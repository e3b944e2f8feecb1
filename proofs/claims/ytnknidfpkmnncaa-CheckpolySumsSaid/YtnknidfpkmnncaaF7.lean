/- The law's is. -/
import Derived.Test.YtnknidfpkmnncaaF6
namespace Go.Proofs.Ytnknidfpkmnncaa
open Go.RowKit

set_option maxRecDepth 100000 in
set_option maxHeartbeats 1000000 in
theorem is_any (B : Nat) (A : Option Addr) (n c : Nat) (al : List Tm) (x : Ex) (k : Int) (M E : Nat) (w : World) (hB : B ≤ w.heap.size) (h : PolyC B w A n c al) (hn : n ≤ 1073741824) (hx : XSmall x M) (hE : ∀ p ∈ al, ESmall p.2 E) (hM : 0 < M) (hM2 : M ≤ 2147483648) (hE2 : E ≤ 1073741824) (hbig : l1 al * M ^ (4 * E) < big) (hk : -9223372036854775808 ≤ k) (hk2 : k ≤ 9223372036854775807) :
    Calls Try.prog 24 #[.slice A n c, .agg #[.int .i64 x.1, .int .i64 x.2.1, .int .i64 x.2.2.1, .int .i64 x.2.2.2], .int .i64 k] w (ValP (.bool (decide (ev x al = k))) w) := by
  have hbx : Below w.heap.size w (w.alloc (.cells #[.int .i64 x.1, .int .i64 x.2.1, .int .i64 x.2.2.1, .int .i64 x.2.2.2] 34)) := (Below.refl _ _).alloc (Nat.le_refl _) _
  have HC := Lib.hid (value_any B A n c al x M E _ (Nat.le_trans hB hbx.size) (h.below hbx (Nat.le_refl _)) hn hx hE hM hM2 hE2 hbig)
  have HD := Lib.hid (show (cmpI (ev x al) k == 0) = decide (ev x al = k) by rw [Bool.eq_iff_iff, beq_iff_eq, decide_eq_true_eq]; exact cmpI_zero)
  clear hx hE hbig h
  generalize ev x al = z at *
  go_enter Try.func24, Try.ntmps24
  go_wp2_with fail
  refine HC.out.mono ?_
  rintro e w1 ⟨A1, n1, c1, rfl, h1, hb1⟩
  have hb2 := hbx.trans (hb1.mono hbx.size)
  clear HC
  go_wp2_with fail
  refine (iof_any B k w1 (Nat.le_trans hB hb2.size) hk hk2).mono ?_
  rintro e w2 ⟨A2, n2, c2, rfl, h2, hb3⟩
  have h1' := h1.below hb3 (Nat.le_refl _)
  have hb4 := hb2.trans (hb3.mono hb2.size)
  clear h1 hb1 hb2 hb3
  go_wp2_with fail
  refine (icmpC_any B z k A1 A2 n1 c1 n2 c2 w2 h1' h2).mono ?_
  rintro e w3 ⟨rfl, hb5⟩
  go_wp2
  go_ret
  exact ⟨by rw [← HD.out]; rfl, hb4.trans (hb5.mono hb4.size)⟩
end Go.Proofs.Ytnknidfpkmnncaa
