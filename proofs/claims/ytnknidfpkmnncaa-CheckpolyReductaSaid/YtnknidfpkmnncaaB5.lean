/- integer.Mul. -/
import Derived.Test.YtnknidfpkmnncaaB4
namespace Go.Proofs.Ytnknidfpkmnncaa
open Go.RowKit

set_option maxRecDepth 100000 in
set_option maxHeartbeats 2000000 in
theorem imul_any (B : Nat) (neg neg2 : Bool) (A A2 : Option Addr) (n c n2 c2 : Nat) (xs ys : List Nat) (w : World) (hB : B ≤ w.heap.size) (hx : Dig B w A n c xs) (hy : Dig B w A2 n2 c2 ys) (hn : n ≤ 1099511627776) (hn2 : n2 ≤ 1099511627776) :
    Calls Try.prog 28 #[.agg #[.bool neg, .slice A n c], .agg #[.bool neg2, .slice A2 n2 c2]] w (IntP B (iv neg (val xs) * iv neg2 (val ys)) w) := by
  have hb := Box3.start w neg neg2 A A2 n c n2 c2
  have hbd := hb.drew
  have hx1 := (hx.below hb.below (Nat.le_refl _)).drew
  have hy1 := (hy.below hb.below (Nat.le_refl _)).drew
  have HE := Lib.hid (show iv (!(neg == neg2)) (val xs * val ys) = iv neg (val xs) * iv neg2 (val ys) by cases neg <;> cases neg2 <;> simp [iv, Int.neg_mul, Int.mul_neg])
  clear hb
  go_enter Try.func28, Try.ntmps28
  go_wp2_with fail
  go_region_held3 (fun w' => w'.cell? ⟨w.heap.size, 0, none⟩ = some (.bool neg) ∧ w'.cell? ⟨w.heap.size, 1, none⟩ = some (.slice A n c) ∧ w'.cell? ⟨w.heap.size + 1, 0, none⟩ = some (.bool neg2) ∧ w'.cell? ⟨w.heap.size + 1, 1, none⟩ = some (.slice A2 n2 c2))
    (first | exact hbd.held | exact hb1.held | exact hb2.held | exact hb2.heldSet _ _)
    (first
      | (go_at_call 58; ((with_reducible refine (mul_any B A A2 n c n2 c2 xs ys _ hx1 hy1 hn hn2).mono ?_); rintro e w1 ⟨A1, n1, c1, rfl, h1, hbw1⟩; have hb1 := hbd.next hbw1))
      | (go_at_call 57; ((with_reducible refine (made_any B _ A1 n1 c1 _ _ h1).mono ?_); rw [HE.out]; rintro e w2 ⟨A3, n3, c3, rfl, h2, hbw2⟩; have hb2 := hb1.next hbw2; have hr0 := hb2.r0; have hr1 := hb2.r1; have hf0 := hb2.fr0; have hf1 := hb2.fr1)))
  have hfin := hb2.done hB h2
  have HF := Lib.hid hfin
  clear hfin hb1 hb2 hbd hbw1 hbw2 hx1 hy1 h1 h2
  generalize iv neg (val xs) * iv neg2 (val ys) = z at *
  go_wp2
  exact bodyPost_ret (v := .agg #[.bool (decide (z < 0)), .slice A3 n3 c3]) (by simp [results, Try.results28, go_sem, hr0, hr1]) rfl HF.out
end Go.Proofs.Ytnknidfpkmnncaa
