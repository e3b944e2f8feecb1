/- natural.Of, Normal, IsZero, Cmp. -/
import Derived.Test.YtnknidfpkmnncaaA1
import Derived.Test.YtnknidfpkmnncaaA2
namespace Go.Proofs.Ytnknidfpkmnncaa
open Go.RowKit

theorem isZero_any (B : Nat) (A : Option Addr) (n c : Nat) (xs : List Nat) (w : World) (h : Dig B w A n c xs) :
    Calls Try.prog 74 #[.slice A n c] w fun e w' => e = .returned (.bool (decide (val xs = 0))) ∧ w = w' := by
  go_enter Try.func74, Try.ntmps74
  go_wp2_with (go_at_call 77; refine (trim_any B _ _ _ _ _ h).mono ?_; rintro e w' ⟨A', n', c', rfl, h', rfl⟩; have hlen := h'.len; have hbd := h'.bd; have hcap := h'.cap)
  go_ret
  refine ⟨?_, rfl⟩
  show Ending.returned (Value.bool _) = _
  congr 2
  rw [Bool.eq_iff_iff, beq_iff_eq, decide_eq_true_eq]
  constructor
  · intro h0
    have : n' = 0 := by omega
    rw [this] at hlen
    exact digs_eq_nil.1 (List.eq_nil_of_length_eq_zero hlen)
  · intro h0
    rw [h0, digs_zero] at hlen
    simp at hlen
    omega

set_option maxHeartbeats 400000 in
theorem cmp_any (B : Nat) (A A2 : Option Addr) (n c n2 c2 : Nat) (xs ys : List Nat) (w : World) (hx : Dig B w A n c xs) (hy : Dig B w A2 n2 c2 ys) :
    Calls Try.prog 56 #[.slice A n c, .slice A2 n2 c2] w (ValQ (.int .i64 (cmpN (val xs) (val ys))) w) := by
  go_enter Try.func56, Try.ntmps56
  go_wp2_with fail
  refine (trim_any B _ _ _ _ _ hx).mono ?_
  rintro e w' ⟨A', n', c', rfl, h', rfl⟩
  have hlen := h'.len
  have hbd := h'.bd
  have hcap := h'.cap
  go_wp2_with fail
  refine (trim_any B _ _ _ _ _ hy).mono ?_
  rintro e w' ⟨A'2, n'2, c'2, rfl, h'2, rfl⟩
  have hlen2 := h'2.len
  have hbd2 := h'2.bd
  have hcap2 := h'2.cap
  clear hx hy
  generalize hvx : val xs = vx at *
  generalize hvy : val ys = vy at *
  have HL := Lib.hid hlen
  have HL2 := Lib.hid hlen2
  have H1 := Lib.hid hvx
  have H2 := Lib.hid hvy
  clear hvx hvy hlen hlen2
  rcases Nat.lt_trichotomy n' n'2 with hlt | heq | hgt
  · go_wp2
    go_ret
    refine ValQ.mk ?_ (Drawn.refl _)
    rw [cmpN_lt (lt_of_length_lt (by rw [HL.out, HL2.out]; exact hlt))]
    rfl
  · obtain rfl := heq
    go_wp2
    go_loopw [5] (fun i wr => ∃ k : Nat, k ≤ n' ∧ i = .int .i64 ((k : Int) - 1) ∧ Hid (val ((digs vx).drop k) = val ((digs vy).drop k)) ∧ Hid (Drawn w wr)) (fun i _ => (intOf i + 1).toNat)
    case atStart =>
      refine ⟨n', Nat.le_refl _, rfl, Lib.hid ?_, Lib.hid (Drawn.refl _)⟩
      rw [List.drop_of_length_le (by rw [HL.out]; omega), List.drop_of_length_le (by rw [HL2.out]; omega)]
    case round =>
      obtain ⟨k, hk, rfl, Heq, Hw⟩ := hrel
      obtain ⟨m, hm⟩ := Hw.out
      subst hm
      rcases k with _ | k
      · go_wp2
        go_ret
        have h1 := Heq.out
        rw [List.drop_zero, List.drop_zero, val_digs, val_digs] at h1
        subst h1
        refine ValQ.mk ?_ (by repeat (first | exact Drawn.refl _ | refine Drawn.drewN ?_ _))
        rw [cmpN_eq]
        rfl
      · obtain ⟨ad, rfl, hc⟩ := h'.cell k (by omega)
        obtain ⟨ad2, rfl, hc2⟩ := h'2.cell k (by omega)
        have e1 : (((k + 1 : Nat) : Int) - 1) = (k : Int) := by omega
        rw [e1]
        clear e1
        have hkx : k < (digs vx).length := by rw [HL.out]; exact hk
        have hky : k < (digs vy).length := by rw [HL2.out]; exact hk
        rcases Nat.lt_trichotomy (dg (digs vx) k) (dg (digs vy) k) with hd | hd | hd
        · have Hgt := Lib.hid (val_gt k hky hkx h'2.dig h'.dig Heq.out.symm hd)
          clear hkx hky Heq
          go_wp2
          go_quiet (fail)
          go_wp2
          go_quiet (fail)
          go_wp2
          go_ret
          have h1 := Hgt.out
          rw [val_digs, val_digs] at h1
          refine ValQ.mk ?_ (by repeat (first | exact Drawn.refl _ | refine Drawn.drewN ?_ _))
          rw [cmpN_lt h1]
          rfl
        · have Heq2 := Lib.hid (val_drop_eq k hkx hky Heq.out hd)
          rw [hd] at hc
          clear hkx hky Heq hd
          go_wp2
          go_quiet (fail)
          go_wp2
          go_quiet (fail)
          go_wp2
          go_roundw
          case rel => exact ⟨k, by omega, rfl, Heq2, Lib.hid (by repeat (first | exact Drawn.refl _ | refine Drawn.drewN ?_ _))⟩
          case measure => simp [intOf]
        · have Hgt := Lib.hid (val_gt k hkx hky h'.dig h'2.dig Heq.out hd)
          clear hkx hky Heq
          go_wp2
          go_quiet (fail)
          go_wp2
          go_ret
          have h1 := Hgt.out
          rw [val_digs, val_digs] at h1
          refine ValQ.mk ?_ (by repeat (first | exact Drawn.refl _ | refine Drawn.drewN ?_ _))
          rw [cmpN_gt h1]
          rfl
  · go_wp2
    go_ret
    refine ValQ.mk ?_ (Drawn.refl _)
    rw [cmpN_gt (lt_of_length_lt (by rw [HL.out, HL2.out]; exact hgt))]
    rfl
end Go.Proofs.Ytnknidfpkmnncaa
