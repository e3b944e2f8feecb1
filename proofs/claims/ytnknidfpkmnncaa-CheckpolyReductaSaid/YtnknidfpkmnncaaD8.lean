/- The law's equal. -/
import Derived.Test.YtnknidfpkmnncaaD7
namespace Go.Proofs.Ytnknidfpkmnncaa
open Go.RowKit

theorem take_eq_all {a b : List Tm} {k : Nat} (h : a.take k = b.take k) (ha : a.length = k) (hb : b.length = k) : a = b := by
  rwa [List.take_of_length_le (by omega), List.take_of_length_le (by omega)] at h

set_option maxRecDepth 100000 in
set_option maxHeartbeats 4000000 in
theorem equal_any (B : Nat) (A A2 : Option Addr) (n c n2 c2 : Nat) (a b : List Tm) (w : World) (h12 : PolyC B w A n c a) (h22 : PolyC B w A2 n2 c2 b) (hnm : n ≤ 1073741824) (hnm2 : n2 ≤ 1073741824) :
    Calls Try.prog 17 #[.slice A n c, .slice A2 n2 c2] w (ValP (.bool (decide (a = b))) w) := by
  have hc1 := h12.cap
  have hc2 := h22.cap
  have HA := Lib.hid h12.len
  have HB := Lib.hid h22.len
  go_enter Try.func17, Try.ntmps17
  by_cases hnn : n = n2
  · obtain rfl := hnn
    go_wp2
    go_loopw [5] (fun i wr => ∃ k : Nat, k ≤ n ∧ i = .int .i64 k ∧ Below w.heap.size w wr ∧ Hid (a.take k = b.take k)) (fun i _ => n - (intOf i).toNat)
    case atStart => exact ⟨0, Nat.zero_le _, rfl, Below.refl _ _, Lib.hid (by simp)⟩
    case round =>
      obtain ⟨k, hk, rfl, hb, HV⟩ := hrel
      by_cases hka : k < n
      · have i0 : (0 : Int) ≤ (k : Int) := by omega
        have i1 : (k : Int) < (n : Int) := by omega
        obtain ⟨b1, off1, rfl, hs1, HT1⟩ := h12.term (by omega)
        obtain ⟨b2, off2, rfl, hs2, HT2⟩ := h22.term (by omega)
        obtain ⟨t, p, hp, hte, hcf, hh2, hh4⟩ := HT1 k (by omega)
        obtain ⟨s, q, hq, hse, hcf2, hg2, hg4⟩ := HT2 k (by omega)
        have HP := Lib.hid hp
        have HQ := Lib.hid hq
        have HTE := Lib.hid hte
        have HSE := Lib.hid hse
        have HC1 := Lib.hid hcf
        have HC2 := Lib.hid hcf2
        have hS0 : (Held4 wr b1 (off1 + k * 6) t.e ∧ Held4 wr b2 (off2 + k * 6) s.e) ∧ (Held2 wr b1 (off1 + k * 6) t ∧ Held2 wr b2 (off2 + k * 6) s) := ⟨⟨held4_below hh4 hb hs1, held4_below hg4 hb hs2⟩, ⟨held2_below hh2 hb hs1, held2_below hg2 hb hs2⟩⟩
        have hgd := fun (x y : Operand) (W : World) => guard_ex .neq #[.int .i64 t.e.1, .int .i64 t.e.2.1, .int .i64 t.e.2.2.1, .int .i64 t.e.2.2.2] #[.int .i64 s.e.1, .int .i64 s.e.2.1, .int .i64 s.e.2.2.1, .int .i64 s.e.2.2.2] x y W
        have hS1 : (Held4 wr.drew b1 (off1 + k * 6) t.e ∧ Held4 wr.drew b2 (off2 + k * 6) s.e) ∧ (Held2 wr.drew b1 (off1 + k * 6) t ∧ Held2 wr.drew b2 (off2 + k * 6) s) := hS0
        clear HT1 HT2 hcf hcf2 hh2 hh4 hg2 hg4 hp hq hte hse
        by_cases hE : t.e = s.e
        · have hnq : ∀ W : World, (binOp .neq 34 (.agg #[.int .i64 t.e.1, .int .i64 t.e.2.1, .int .i64 t.e.2.2.1, .int .i64 t.e.2.2.2]) (.agg #[.int .i64 s.e.1, .int .i64 s.e.2.1, .int .i64 s.e.2.2.1, .int .i64 s.e.2.2.2])).run Try.prog W = .ok (.bool false) W := fun W => by
            rw [neq_ex, hE]; simp
          have HEE := Lib.hid hE
          clear hE
          obtain ⟨y, hy⟩ : ∃ y, cmpI p.1 q.1 = y := ⟨_, rfl⟩
          have HY := Lib.hid hy
          clear hy
          have hdx := (HC1.out.2.below hb (Nat.le_refl _)).drew
          have hdy := (HC2.out.2.below hb (Nat.le_refl _)).drew
          have HN1 := Lib.hid (show cmpI (iv t.neg (val (digs p.1.natAbs))) (iv s.neg (val (digs q.1.natAbs))) = y from by rw [CoefC.eq HC1.out, CoefC.eq HC2.out]; exact HY.out)
          go_wp2
          go_region_held3 (fun w' => (Held4 w' b1 (off1 + k * 6) t.e ∧ Held4 w' b2 (off2 + k * 6) s.e) ∧ (Held2 w' b1 (off1 + k * 6) t ∧ Held2 w' b2 (off2 + k * 6) s)) (first | exact hS1 | exact hS5 | go_keep)
            (first
              | (go_at_call 26; ((with_reducible refine (icmp_any B t.neg s.neg t.A s.A t.n t.c s.n s.c _ _ _ hdx hdy).mono ?_); rw [HN1.out]; rintro e w5 ⟨rfl, hbw5⟩; have hS5 := And.intro (And.intro (held4_below (w := wr.drew) hS1.1.1 hbw5 (Nat.lt_of_lt_of_le hs1 hb.size)) (held4_below (w := wr.drew) hS1.1.2 hbw5 (Nat.lt_of_lt_of_le hs2 hb.size))) (And.intro (held2_below (w := wr.drew) hS1.2.1 hbw5 (Nat.lt_of_lt_of_le hs1 hb.size)) (held2_below (w := wr.drew) hS1.2.2 hbw5 (Nat.lt_of_lt_of_le hs2 hb.size))))))
          have hb5 := hb.drew.trans (hbw5.mono hb.size)
          clear hS0 hS1 hS5 hdx hdy hnq hgd
          rcases Decidable.em (y = 0) with hy0 | hy0
          · subst hy0
            go_wp2
            go_roundw
            case rel => exact ⟨k + 1, by omega, by go_num, hb5, Lib.hid (take_step HV.out HP.out HQ.out (cmpE_zero.2 (by rw [← HTE.out, ← HSE.out]; exact HEE.out)) HY.out)⟩
            case measure => simp [intOf]; omega
          · have HF := Lib.hid (show a ≠ b from fun e => hy0 (by
              have h1 := HP.out
              rw [e, HQ.out] at h1
              injection h1 with h1
              rw [← HY.out, h1]
              exact cmpI_zero.2 rfl))
            go_wp2
            go_ret
            exact ⟨by rw [decide_eq_false HF.out]; rfl, hb5⟩
        · have hnq : ∀ W : World, (binOp .neq 34 (.agg #[.int .i64 t.e.1, .int .i64 t.e.2.1, .int .i64 t.e.2.2.1, .int .i64 t.e.2.2.2]) (.agg #[.int .i64 s.e.1, .int .i64 s.e.2.1, .int .i64 s.e.2.2.1, .int .i64 s.e.2.2.2])).run Try.prog W = .ok (.bool true) W := fun W => by
            rw [neq_ex, beq_eq_false_iff_ne.2 hE]; rfl
          have HEE := Lib.hid hE
          clear hE hS1
          obtain ⟨⟨⟨d0, d1, d2, d3⟩, x0, x1, x2, x3⟩, ⟨c0, c1⟩, y0, y1⟩ := hS0
          go_wp2
          have HF := Lib.hid (show a ≠ b from fun e => HEE.out (by
              have h1 := HP.out
              rw [e, HQ.out] at h1
              injection h1 with h1
              rw [HTE.out, HSE.out, h1]))
          go_quiet (fail)
          go_wp2
          go_ret
          refine ⟨by rw [decide_eq_false HF.out]; rfl, hb.trans (((Drawn.below ?_ _)).mono hb.size)⟩
          repeat (first | exact Drawn.refl _ | refine Drawn.drewN ?_ _)
      · obtain rfl : k = n := by omega
        have HF := Lib.hid (show a = b from take_eq_all HV.out HA.out HB.out)
        clear HV
        go_wp2
        go_ret
        exact ⟨by rw [decide_eq_true HF.out]; rfl, hb⟩
  · have HF := Lib.hid (show a ≠ b from fun e => hnn (by rw [← HA.out, ← HB.out, e]))
    go_wp2
    go_ret
    exact ⟨by rw [decide_eq_false HF.out]; rfl, Below.refl _ _⟩
end Go.Proofs.Ytnknidfpkmnncaa
