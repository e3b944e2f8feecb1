/- The law's order and equal. -/
import Derived.Test.YtnknidfpkmnncaaD6
namespace Go.Proofs.Ytnknidfpkmnncaa
open Go.RowKit

set_option maxRecDepth 100000 in
set_option maxHeartbeats 4000000 in
theorem order_any (B : Nat) (A A2 : Option Addr) (n c n2 c2 : Nat) (a b : List Tm) (w : World) (h12 : PolyC B w A n c a) (h22 : PolyC B w A2 n2 c2 b) (hnm : n ≤ 1073741824) (hnm2 : n2 ≤ 1073741824) :
    Calls Try.prog 18 #[.slice A n c, .slice A2 n2 c2] w (ValP (.int .i64 (cmpL a b)) w) := by
  have hc1 := h12.cap
  have hc2 := h22.cap
  have HA := Lib.hid h12.len
  have HB := Lib.hid h22.len
  go_enter Try.func18, Try.ntmps18
  go_wp2
  go_loopw [5] (fun i wr => ∃ k : Nat, k ≤ n ∧ k ≤ n2 ∧ i = .int .i64 k ∧ Below w.heap.size w wr ∧ Hid (a.take k = b.take k)) (fun i _ => n - (intOf i).toNat)
  case atStart => exact ⟨0, Nat.zero_le _, Nat.zero_le _, rfl, Below.refl _ _, Lib.hid (by simp)⟩
  case round =>
    obtain ⟨k, hk, hk2, rfl, hb, HV⟩ := hrel
    by_cases hkm : k < n ∧ k < n2
    · obtain ⟨hka, hkb⟩ := hkm
      have i0 : (0 : Int) ≤ (k : Int) := by omega
      have i1 : (k : Int) < (n : Int) := by omega
      have i2 : (k : Int) < (n2 : Int) := by omega
      obtain ⟨b1, off1, rfl, hs1, HT1⟩ := h12.term (by omega)
      obtain ⟨b2, off2, rfl, hs2, HT2⟩ := h22.term (by omega)
      obtain ⟨t, p, hp, hte, hcf, hh2, hh4⟩ := HT1 k (by omega)
      obtain ⟨s, q, hq, hse, hcf2, hg2, hg4⟩ := HT2 k (by omega)
      have HTE := Lib.hid hte
      have HSE := Lib.hid hse
      clear hte hse
      have HE := Lib.hid (cmpL_at HV.out hp hq)
      have HS := Lib.hid (fun he hc => take_step HV.out hp hq he hc)
      have HC1 := Lib.hid hcf
      have HC2 := Lib.hid hcf2
      have hS0 : Held4 wr b1 (off1 + k * 6) t.e ∧ Held4 wr b2 (off2 + k * 6) s.e := ⟨held4_below hh4 hb hs1, held4_below hg4 hb hs2⟩
      have H2 := Lib.hid (show Held2 wr b1 (off1 + k * 6) t ∧ Held2 wr b2 (off2 + k * 6) s from ⟨held2_below hh2 hb hs1, held2_below hg2 hb hs2⟩)
      clear HT1 HT2 hcf hcf2 hh2 hh4 hg2 hg4 hp hq
      obtain ⟨z, hz⟩ : ∃ z, cmpE t.e s.e = z := ⟨_, rfl⟩
      have HZ := Lib.hid hz
      clear hz
      have HZR := Lib.hid (show z = -1 ∨ z = 0 ∨ z = 1 by rw [← HZ.out]; exact cmpE_range _ _)
      have HB1 := Lib.hid (show ∀ w, Calls Try.prog 53 #[.agg #[.int .i64 t.e.1, .int .i64 t.e.2.1, .int .i64 t.e.2.2.1, .int .i64 t.e.2.2.2], .agg #[.int .i64 s.e.1, .int .i64 s.e.2.1, .int .i64 s.e.2.2.1, .int .i64 s.e.2.2.2]] w (ValP (.bool (decide (0 < z))) w) from fun w => by have h9 := greater_any t.e s.e w; rw [HZ.out] at h9; exact h9)
      have HB2 := Lib.hid (show ∀ w, Calls Try.prog 53 #[.agg #[.int .i64 s.e.1, .int .i64 s.e.2.1, .int .i64 s.e.2.2.1, .int .i64 s.e.2.2.2], .agg #[.int .i64 t.e.1, .int .i64 t.e.2.1, .int .i64 t.e.2.2.1, .int .i64 t.e.2.2.2]] w (ValP (.bool (decide (0 < -z))) w) from fun w => by have h9 := greater_any s.e t.e w; rw [cmpE_neg, HZ.out] at h9; exact h9)
      obtain ⟨y, hy⟩ : ∃ y, cmpI p.1 q.1 = y := ⟨_, rfl⟩
      have HY := Lib.hid hy
      clear hy
      go_wp2
      go_region_held3 (fun w' => Held4 w' b1 (off1 + k * 6) t.e ∧ Held4 w' b2 (off2 + k * 6) s.e) (first | exact hS0 | exact hS1 | go_keep)
        (first
          | (go_at_call 53; ((with_reducible refine (HB1.out _).mono ?_); rintro e w1 ⟨rfl, hbw1⟩; have hS1 := And.intro (held4_below (w := wr.drew) hS0.1 hbw1 (Nat.lt_of_lt_of_le hs1 hb.size)) (held4_below (w := wr.drew) hS0.2 hbw1 (Nat.lt_of_lt_of_le hs2 hb.size)))))
      have hb1 := hb.drew.trans (hbw1.mono hb.size)
      have hS2 := And.intro (held4_below (w := wr.drew) hS0.1 hbw1 (Nat.lt_of_lt_of_le hs1 hb.size)) (held4_below (w := wr.drew) hS0.2 hbw1 (Nat.lt_of_lt_of_le hs2 hb.size))
      have H3 := Lib.hid (And.intro (held2_below (w := wr.drew) H2.out.1 hbw1 (Nat.lt_of_lt_of_le hs1 hb.size)) (held2_below (w := wr.drew) H2.out.2 hbw1 (Nat.lt_of_lt_of_le hs2 hb.size)))
      clear hS0 hS1 H2
      rcases Int.lt_trichotomy z 0 with hz0 | hz0 | hz0
      · have hd1 : decide (0 < z) = false := decide_eq_false (by omega)
        have hd2 : decide (0 < -z) = true := decide_eq_true (by omega)
        have HZ0 := Lib.hid (show z = -1 by have := HZR.out; omega)
        go_wp2
        go_region_held3 (fun w' => Held4 w' b1 (off1 + k * 6) t.e ∧ Held4 w' b2 (off2 + k * 6) s.e) (first | exact hS2 | exact hS3 | go_keep)
          (first
            | (go_at_call 53; ((with_reducible refine (HB2.out _).mono ?_); rintro e w3 ⟨rfl, hbw3⟩; have hS3 := And.intro (held4_below (w := w1.drew) hS2.1 hbw3 (Nat.lt_of_lt_of_le hs1 hb1.size)) (held4_below (w := w1.drew) hS2.2 hbw3 (Nat.lt_of_lt_of_le hs2 hb1.size)))))
        have hb3 := hb1.drew.trans (hbw3.mono hb1.size)
        clear hS2 hS3
        go_wp2
        go_ret
        refine ⟨?_, hb3⟩
        rw [HE.out, ← HTE.out, ← HSE.out, HZ.out, HZ0.out, if_pos (by decide)] <;> rfl
      · have hd1 : decide (0 < z) = false := decide_eq_false (by omega)
        have hd2 : decide (0 < -z) = false := decide_eq_false (by omega)
        have HZ0 := Lib.hid hz0
        have hz1 : ¬ 0 < z := by omega
        have hz2 : ¬ 0 < -z := by omega
        clear hz0
        go_wp2
        go_region_held3 (fun w' => Held4 w' b1 (off1 + k * 6) t.e ∧ Held4 w' b2 (off2 + k * 6) s.e) (first | exact hS2 | exact hS3 | go_keep)
          (first
            | (go_at_call 53; ((with_reducible refine (HB2.out _).mono ?_); rintro e w3 ⟨rfl, hbw3⟩; have hS3 := And.intro (held4_below (w := w1.drew) hS2.1 hbw3 (Nat.lt_of_lt_of_le hs1 hb1.size)) (held4_below (w := w1.drew) hS2.2 hbw3 (Nat.lt_of_lt_of_le hs2 hb1.size)))))
        have hb3 := hb1.drew.trans (hbw3.mono hb1.size)
        have hS4 := And.intro (held2_below (w := w1.drew) H3.out.1 hbw3 (Nat.lt_of_lt_of_le hs1 hb1.size)) (held2_below (w := w1.drew) H3.out.2 hbw3 (Nat.lt_of_lt_of_le hs2 hb1.size))
        clear hS2 hS3
        go_wp2
        have hdx := (HC1.out.2.below hb3 (Nat.le_refl _)).drew
        have hdy := (HC2.out.2.below hb3 (Nat.le_refl _)).drew
        have HN1 := Lib.hid (show cmpI (iv t.neg (val (digs p.1.natAbs))) (iv s.neg (val (digs q.1.natAbs))) = y from by rw [CoefC.eq HC1.out, CoefC.eq HC2.out]; exact HY.out)
        go_region_held3 (fun w' => Held2 w' b1 (off1 + k * 6) t ∧ Held2 w' b2 (off2 + k * 6) s) (first | exact hS4 | exact hS5 | go_keep)
          (first
            | (go_at_call 26; ((with_reducible refine (icmp_any B t.neg s.neg t.A s.A t.n t.c s.n s.c _ _ _ hdx hdy).mono ?_); rw [HN1.out]; rintro e w5 ⟨rfl, hbw5⟩; have hS5 := And.intro (held2_below (w := w3.drew) hS4.1 hbw5 (Nat.lt_of_lt_of_le hs1 hb3.size)) (held2_below (w := w3.drew) hS4.2 hbw5 (Nat.lt_of_lt_of_le hs2 hb3.size)))))
        have hb5 := hb3.drew.trans (hbw5.mono hb3.size)
        clear hS4 hS5 hdx hdy
        rcases Decidable.em (y = 0) with hy0 | hy0
        · subst hy0
          go_wp2
          go_roundw
          case rel => exact ⟨k + 1, by omega, by omega, by go_num, hb5, Lib.hid (HS.out (by rw [← HTE.out, ← HSE.out, HZ.out]; exact HZ0.out) HY.out)⟩
          case measure => simp [intOf]; omega
        · go_wp2
          go_ret
          refine ⟨?_, hb5⟩
          rw [HE.out, ← HTE.out, ← HSE.out, HZ.out, HY.out, HZ0.out, if_neg (by simp), if_pos hy0] <;> rfl
      · have hd1 : decide (0 < z) = true := decide_eq_true (by omega)
        have HZ0 := Lib.hid (show z = 1 by have := HZR.out; omega)
        clear hS2
        go_wp2
        go_ret
        refine ⟨?_, hb1⟩
        rw [HE.out, ← HTE.out, ← HSE.out, HZ.out, HZ0.out, if_pos (by decide)] <;> rfl
    · have HF := Lib.hid (cmpL_end HV.out (by rw [HA.out, HB.out]; omega))
      clear HV
      rcases Nat.lt_trichotomy n n2 with h3 | h3 | h3
      · have hkn : ¬ k < n := by omega
        go_wp2
        go_ret
        refine ⟨?_, hb⟩
        rw [HF.out, HA.out, HB.out, if_pos h3] <;> rfl
      · have hkn : ¬ k < n := by omega
        subst h3
        go_wp2
        go_ret
        refine ⟨?_, hb⟩
        rw [HF.out, HA.out, HB.out, if_neg (by omega), if_neg (by omega)] <;> rfl
      · have hkn : ¬ k < n2 := by omega
        have hkn' : k < n := by omega
        go_wp2
        go_ret
        refine ⟨?_, hb⟩
        rw [HF.out, HA.out, HB.out, if_neg (by omega), if_pos h3] <;> rfl
end Go.Proofs.Ytnknidfpkmnncaa
