/- integer.Sign, Cmp. -/
import Derived.Test.YtnknidfpkmnncaaB2
namespace Go.Proofs.Ytnknidfpkmnncaa
open Go.RowKit

/-- What comes back is v; what existed is as it was. -/
def ValP (v : Value) (w : World) (e : Ending) (w' : World) : Prop := e = .returned v ∧ Below w.heap.size w w'

theorem isign_zero (B : Nat) (neg : Bool) (A : Option Addr) (n c : Nat) (xs : List Nat) (w : World) (h : Dig B w A n c xs) (hz : val xs = 0) :
    Calls Try.prog 51 #[.agg #[.bool neg, .slice A n c]] w (ValP (.int .i64 0) w) := by
  have hbw : Below w.heap.size w (w.alloc (.cells #[.bool neg, .slice A n c] 46)) := (Below.refl _ _).alloc (Nat.le_refl _) _
  have hq := isZero_any B _ _ _ _ _ (h.below hbw (Nat.le_refl _))
  rw [decide_eq_true hz] at hq
  have HQ := Lib.hid hq
  clear hq hz
  go_enter Try.func51, Try.ntmps51
  go_wp2_with fail
  refine HQ.out.mono ?_
  rintro e w1 ⟨rfl, rfl⟩
  go_wp2
  go_ret
  exact ⟨rfl, hbw⟩
theorem isign_neg (B : Nat) (A : Option Addr) (n c : Nat) (xs : List Nat) (w : World) (h : Dig B w A n c xs) (hz : val xs ≠ 0) :
    Calls Try.prog 51 #[.agg #[.bool true, .slice A n c]] w (ValP (.int .i64 (-1)) w) := by
  have hbw : Below w.heap.size w (w.alloc (.cells #[.bool true, .slice A n c] 46)) := (Below.refl _ _).alloc (Nat.le_refl _) _
  have hq := isZero_any B _ _ _ _ _ (h.below hbw (Nat.le_refl _))
  rw [decide_eq_false hz] at hq
  have HQ := Lib.hid hq
  clear hq hz
  go_enter Try.func51, Try.ntmps51
  go_wp2_with fail
  refine HQ.out.mono ?_
  rintro e w1 ⟨rfl, rfl⟩
  go_wp2
  go_ret
  exact ⟨rfl, hbw⟩
theorem isign_pos (B : Nat) (A : Option Addr) (n c : Nat) (xs : List Nat) (w : World) (h : Dig B w A n c xs) (hz : val xs ≠ 0) :
    Calls Try.prog 51 #[.agg #[.bool false, .slice A n c]] w (ValP (.int .i64 1) w) := by
  have hbw : Below w.heap.size w (w.alloc (.cells #[.bool false, .slice A n c] 46)) := (Below.refl _ _).alloc (Nat.le_refl _) _
  have hq := isZero_any B _ _ _ _ _ (h.below hbw (Nat.le_refl _))
  rw [decide_eq_false hz] at hq
  have HQ := Lib.hid hq
  clear hq hz
  go_enter Try.func51, Try.ntmps51
  go_wp2_with fail
  refine HQ.out.mono ?_
  rintro e w1 ⟨rfl, rfl⟩
  go_wp2
  go_ret
  exact ⟨rfl, hbw⟩

theorem isign_any (B : Nat) (neg : Bool) (A : Option Addr) (n c : Nat) (xs : List Nat) (w : World) (h : Dig B w A n c xs) :
    Calls Try.prog 51 #[.agg #[.bool neg, .slice A n c]] w (ValP (.int .i64 (iv neg (val xs)).sign) w) := by
  by_cases hz : val xs = 0
  · have e : (iv neg (val xs)).sign = 0 := by rw [hz]; cases neg <;> rfl
    rw [e]
    exact isign_zero B neg A n c xs w h hz
  · cases neg
    · have e : (iv false (val xs)).sign = 1 := Int.sign_eq_one_of_pos (by unfold iv; simp; omega)
      rw [e]
      exact isign_pos B A n c xs w h hz
    · have e : (iv true (val xs)).sign = -1 := Int.sign_eq_neg_one_of_neg (by unfold iv; simp; omega)
      rw [e]
      exact isign_neg B A n c xs w h hz

/-- -1, 0 or 1. -/
def cmpI (a b : Int) : Int := if a < b then -1 else if a = b then 0 else 1

theorem cmpI_lt {a b : Int} (h : a.sign < b.sign) : cmpI a b = -1 := by
  unfold cmpI
  rw [if_pos]
  rcases Int.lt_trichotomy a 0 with h1 | h1 | h1 <;> rcases Int.lt_trichotomy b 0 with h2 | h2 | h2 <;>
    simp_all [Int.sign_eq_neg_one_of_neg, Int.sign_eq_one_of_pos] <;> omega
theorem cmpI_gt {a b : Int} (h : b.sign < a.sign) : cmpI a b = 1 := by
  have : b < a := by
    rcases Int.lt_trichotomy a 0 with h1 | h1 | h1 <;> rcases Int.lt_trichotomy b 0 with h2 | h2 | h2 <;>
      simp_all [Int.sign_eq_neg_one_of_neg, Int.sign_eq_one_of_pos] <;> omega
  unfold cmpI
  rw [if_neg (by omega), if_neg (by omega)]
theorem cmpI_eq_neg {neg neg2 : Bool} {p q : Nat} (h : (iv neg p).sign = (iv neg2 q).sign) (h0 : (iv neg p).sign < 0) : cmpI (iv neg p) (iv neg2 q) = cmpN q p := by
  have h1 : iv neg p < 0 := Int.sign_neg_iff.1 h0
  have h2 : iv neg2 q < 0 := Int.sign_neg_iff.1 (by rw [← h]; exact h0)
  unfold cmpI cmpN iv at *
  cases neg <;> cases neg2 <;> simp at * <;> (repeat' split) <;> omega
theorem cmpI_eq_pos {neg neg2 : Bool} {p q : Nat} (h : (iv neg p).sign = (iv neg2 q).sign) (h0 : ¬ (iv neg p).sign < 0) : cmpI (iv neg p) (iv neg2 q) = cmpN p q := by
  have h1 : ¬ iv neg p < 0 := fun h3 => h0 (Int.sign_neg_iff.2 h3)
  have h2 : ¬ iv neg2 q < 0 := fun h3 => h0 (by rw [h]; exact Int.sign_neg_iff.2 h3)
  unfold cmpI cmpN iv at *
  cases neg <;> cases neg2 <;> simp at * <;> (repeat' split) <;> omega
theorem cmpK0 (w : World) (neg neg2 : Bool) (A A2 : Option Addr) (n c n2 c2 : Nat) :
    ((((w.alloc (.cells #[.bool neg, .slice A n c] 46)).alloc (.cells #[.bool neg2, .slice A2 n2 c2] 46)).drew).cell? ⟨w.heap.size, 0, none⟩ = some (.bool neg)) ∧
    ((((w.alloc (.cells #[.bool neg, .slice A n c] 46)).alloc (.cells #[.bool neg2, .slice A2 n2 c2] 46)).drew).cell? ⟨w.heap.size, 1, none⟩ = some (.slice A n c)) ∧
    ((((w.alloc (.cells #[.bool neg, .slice A n c] 46)).alloc (.cells #[.bool neg2, .slice A2 n2 c2] 46)).drew).cell? ⟨w.heap.size + 1, 0, none⟩ = some (.bool neg2)) ∧
    ((((w.alloc (.cells #[.bool neg, .slice A n c] 46)).alloc (.cells #[.bool neg2, .slice A2 n2 c2] 46)).drew).cell? ⟨w.heap.size + 1, 1, none⟩ = some (.slice A2 n2 c2)) := by
  refine ⟨?_, ?_, ?_, ?_⟩ <;> go_simp
theorem cmpK {W w1 : World} {H : Nat} {a b c d : Value} (hb : Below W.heap.size W w1)
    (h : W.cell? ⟨H, 0, none⟩ = some a ∧ W.cell? ⟨H, 1, none⟩ = some b ∧ W.cell? ⟨H + 1, 0, none⟩ = some c ∧ W.cell? ⟨H + 1, 1, none⟩ = some d) (hz : H + 1 < W.heap.size) :
    w1.cell? ⟨H, 0, none⟩ = some a ∧ w1.cell? ⟨H, 1, none⟩ = some b ∧ w1.cell? ⟨H + 1, 0, none⟩ = some c ∧ w1.cell? ⟨H + 1, 1, none⟩ = some d := by
  obtain ⟨hc, _⟩ := bcell hb
  rw [hc _ _ (by omega), hc _ _ (by omega), hc _ _ hz, hc _ _ hz]
  exact h

set_option maxRecDepth 100000 in
set_option maxHeartbeats 2000000 in
theorem icmp_any (B : Nat) (neg neg2 : Bool) (A A2 : Option Addr) (n c n2 c2 : Nat) (xs ys : List Nat) (w : World) (hx : Dig B w A n c xs) (hy : Dig B w A2 n2 c2 ys) :
    Calls Try.prog 26 #[.agg #[.bool neg, .slice A n c], .agg #[.bool neg2, .slice A2 n2 c2]] w (ValP (.int .i64 (cmpI (iv neg (val xs)) (iv neg2 (val ys)))) w) := by
  have hbw := below_box2 w (.cells #[.bool neg, .slice A n c] 46) (.cells #[.bool neg2, .slice A2 n2 c2] 46)
  have hx1 := hx.below hbw (Nat.le_refl _)
  have hy1 := hy.below hbw (Nat.le_refl _)
  obtain ⟨s, hs⟩ : ∃ s, (iv neg (val xs)).sign = s := ⟨_, rfl⟩
  obtain ⟨t, ht⟩ : ∃ t, (iv neg2 (val ys)).sign = t := ⟨_, rfl⟩
  have hx2 := hx1.drew
  have hy2 := hy1.drew
  have HS := Lib.hid hs
  have HT := Lib.hid ht
  clear hs ht
  go_enter Try.func26, Try.ntmps26
  go_wp2_with fail
  go_region_held3 (fun w' => w'.cell? ⟨w.heap.size, 0, none⟩ = some (.bool neg) ∧ w'.cell? ⟨w.heap.size, 1, none⟩ = some (.slice A n c) ∧ w'.cell? ⟨w.heap.size + 1, 0, none⟩ = some (.bool neg2) ∧ w'.cell? ⟨w.heap.size + 1, 1, none⟩ = some (.slice A2 n2 c2)) (first | go_keep | exact K1 | exact K2)
    (first
      | (go_at_call 51; ((with_reducible refine (isign_any B neg A n c xs _ hx2).mono ?_); rintro e w1 ⟨rfl, hb1⟩; obtain ⟨hc1, hf1⟩ := bcell hb1; have hz1 : w.heap.size + 1 < w1.heap.size := (by have := hb1.size; simp at this; omega); have K1 := cmpK hb1 (cmpK0 w neg neg2 A A2 n c n2 c2) (by simp)))
      | (go_at_call 51; ((with_reducible refine (isign_any B neg2 A2 n2 c2 ys _ (hy2.below hb1 (Nat.le_refl _))).mono ?_); rintro e w2 ⟨rfl, hb2⟩; obtain ⟨hc2, hf2⟩ := bcell hb2; have hz2 : w.heap.size + 1 < w2.heap.size := (by have := hb2.size; omega); have K2 := cmpK hb2 K1 hz1)))
  obtain ⟨ka, kb, kc, kd⟩ := K2
  have hx3 := (hx2.below hb1 (Nat.le_refl _)).below hb2 (Nat.le_refl _)
  have hy3 := (hy2.below hb1 (Nat.le_refl _)).below hb2 (Nat.le_refl _)
  have hbel : Below w.heap.size w w2 := ((hbw.drew).trans (hb1.mono (by simp; omega))).trans (hb2.mono (by omega))
  have HC1 := Lib.hid (cmp_any B _ _ _ _ _ _ _ _ _ hx3 hy3)
  have HC2 := Lib.hid (cmp_any B _ _ _ _ _ _ _ _ _ hy3 hx3)
  have HW := Lib.hid hbel
  clear K1 hc1 hf1 hc2 hf2 hbw hx1 hy1 hx2 hy2 hx3 hy3 hb1 hb2 hbel
  rw [HS.out, HT.out]
  rcases Int.lt_trichotomy s t with hlt | heq | hgt
  · have HL := Lib.hid (cmpI_lt (a := iv neg (val xs)) (b := iv neg2 (val ys)) (by rw [HS.out, HT.out]; exact hlt))
    go_wp2
    go_ret
    exact ⟨by rw [HL.out]; rfl, HW.out⟩
  · obtain rfl := heq
    by_cases h0 : s < 0
    · have HL := Lib.hid (cmpI_eq_neg (HS.out.trans HT.out.symm) (by rw [HS.out]; exact h0))
      go_wp2_with fail
      refine HC2.out.mono ?_
      rintro e w3 ⟨rfl, hd3⟩
      go_wp2
      go_ret
      exact ⟨by rw [HL.out]; rfl, HW.out.trans (hd3.below _)⟩
    · have HL := Lib.hid (cmpI_eq_pos (HS.out.trans HT.out.symm) (by rw [HS.out]; exact h0))
      go_wp2_with fail
      refine HC1.out.mono ?_
      rintro e w3 ⟨rfl, hd3⟩
      go_wp2
      go_ret
      exact ⟨by rw [HL.out]; rfl, HW.out.trans (hd3.below _)⟩
  · have HL := Lib.hid (cmpI_gt (a := iv neg (val xs)) (b := iv neg2 (val ys)) (by rw [HS.out, HT.out]; exact hgt))
    go_wp2
    go_ret
    exact ⟨by rw [HL.out]; rfl, HW.out⟩
end Go.Proofs.Ytnknidfpkmnncaa
