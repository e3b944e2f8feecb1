/- checkpoly.valid, before, and the two functions that Normal hands to the library. -/
import Derived.Test.YtnknidfpkmnncaaB5
import Derived.Test.YtnknidfpkmnncaaP
namespace Go.Proofs.Ytnknidfpkmnncaa
open Go.RowKit

theorem ind0 (a b c d : Int) (w : World) : (Instr.index 34 (.agg #[.int .i64 a, .int .i64 b, .int .i64 c, .int .i64 d]) (.int .i64 0)).run Try.prog w = .ok (.int .i64 a) w := by kernel_rfl
theorem ind1 (a b c d : Int) (w : World) : (Instr.index 34 (.agg #[.int .i64 a, .int .i64 b, .int .i64 c, .int .i64 d]) (.int .i64 1)).run Try.prog w = .ok (.int .i64 b) w := by kernel_rfl
theorem ind2 (a b c d : Int) (w : World) : (Instr.index 34 (.agg #[.int .i64 a, .int .i64 b, .int .i64 c, .int .i64 d]) (.int .i64 2)).run Try.prog w = .ok (.int .i64 c) w := by kernel_rfl
theorem ind3 (a b c d : Int) (w : World) : (Instr.index 34 (.agg #[.int .i64 a, .int .i64 b, .int .i64 c, .int .i64 d]) (.int .i64 3)).run Try.prog w = .ok (.int .i64 d) w := by kernel_rfl
theorem ind_any (a b c d : Int) (k : Nat) (hk : k < 4) : ∀ w, (Instr.index 34 (.agg #[.int .i64 a, .int .i64 b, .int .i64 c, .int .i64 d]) (.int .i64 (k : Int))).run Try.prog w = .ok (.int .i64 (ex (a, b, c, d) k)) w := by
  intro w
  match k, hk with
  | 0, _ => exact ind0 a b c d w
  | 1, _ => exact ind1 a b c d w
  | 2, _ => exact ind2 a b c d w
  | 3, _ => exact ind3 a b c d w
set_option maxHeartbeats 1000000 in
theorem valid_any (e : Ex) (w : World) : Calls Try.prog 43 #[.agg #[.int .i64 e.1, .int .i64 e.2.1, .int .i64 e.2.2.1, .int .i64 e.2.2.2]] w (ValP (.bool (validE e)) w) := by
  obtain ⟨a, b, c, d⟩ := e
  have hbw : Below w.heap.size w (w.alloc (.cells #[.int .i64 a, .int .i64 b, .int .i64 c, .int .i64 d] 34)) := (Below.refl _ _).alloc (Nat.le_refl _) _
  go_enter Try.func43, Try.ntmps43
  go_wp2
  go_loop [6] (fun i => ∃ k : Nat, k ≤ 4 ∧ i = .int .i64 k ∧ Hid (∀ j, j < k → 0 ≤ ex (a, b, c, d) j)) (fun i => 4 - (intOf i).toNat)
  case atStart => exact ⟨0, by omega, rfl, Lib.hid (fun j hj => absurd hj (by omega))⟩
  case round =>
    obtain ⟨k, hk, rfl, HV⟩ := hrel
    by_cases hlt : k < 4
    · have hix := ind_any a b c d k hlt
      obtain ⟨x, hx⟩ : ∃ x, ex (a, b, c, d) k = x := ⟨_, rfl⟩
      rw [hx] at hix
      have HX := Lib.hid hx
      clear hx
      by_cases hneg : x < 0
      · have HF := Lib.hid (validE_false (e := (a, b, c, d)) hlt (by rw [HX.out]; exact hneg))
        go_wp2
        go_ret
        exact ⟨by rw [HF.out]; rfl, hbw⟩
      · have HV2 := Lib.hid (show ∀ j, j < k + 1 → 0 ≤ ex (a, b, c, d) j from fun j hj => by
          rcases Nat.lt_or_ge j k with h1 | h1
          · exact HV.out j h1
          · have : j = k := by omega
            rw [this, HX.out]; omega)
        clear HV HX
        go_wp2
        go_round
        case rel => exact ⟨k + 1, by omega, by go_num, HV2⟩
        case measure => simp [intOf]; omega
    · have hk4 : k = 4 := by omega
      subst hk4
      have HF := Lib.hid (validE_true HV.out)
      clear HV
      go_wp2
      go_ret
      exact ⟨by rw [HF.out]; rfl, hbw⟩

theorem ex_cell (w : World) (H : Nat) (a b c d : Int) (h : w.heap[H]? = some (.cells #[.int .i64 a, .int .i64 b, .int .i64 c, .int .i64 d] 34 (0, 0))) (k : Nat) (hk : k < 4) : w.cell? ⟨H, k, none⟩ = some (.int .i64 (ex (a, b, c, d) k)) := by
  rw [cell_of_row w H k _ _ _ h]
  match k, hk with
  | 0, _ => rfl
  | 1, _ => rfl
  | 2, _ => rfl
  | 3, _ => rfl

set_option maxRecDepth 100000 in
set_option maxHeartbeats 1000000 in
theorem before_any (e f : Ex) (w : World) : Calls Try.prog 47 #[.agg #[.int .i64 e.1, .int .i64 e.2.1, .int .i64 e.2.2.1, .int .i64 e.2.2.2], .agg #[.int .i64 f.1, .int .i64 f.2.1, .int .i64 f.2.2.1, .int .i64 f.2.2.2]] w (ValP (.int .i64 (cmpE e f)) w) := by
  obtain ⟨a, b, c, d⟩ := e
  obtain ⟨a2, b2, c2, d2⟩ := f
  have hbw := below_box2 w (.cells #[.int .i64 a, .int .i64 b, .int .i64 c, .int .i64 d] 34) (.cells #[.int .i64 a2, .int .i64 b2, .int .i64 c2, .int .i64 d2] 34)
  have hc1 := ex_cell ((w.alloc (.cells #[.int .i64 a, .int .i64 b, .int .i64 c, .int .i64 d] 34)).alloc (.cells #[.int .i64 a2, .int .i64 b2, .int .i64 c2, .int .i64 d2] 34)) w.heap.size a b c d (by rw [Below.heap_alloc _ _ _ (by simp)]; exact heap_alloc_new w _)
  have hc2 := ex_cell ((w.alloc (.cells #[.int .i64 a, .int .i64 b, .int .i64 c, .int .i64 d] 34)).alloc (.cells #[.int .i64 a2, .int .i64 b2, .int .i64 c2, .int .i64 d2] 34)) (w.heap.size + 1) a2 b2 c2 d2 (by
    have := heap_alloc_new (w.alloc (.cells #[.int .i64 a, .int .i64 b, .int .i64 c, .int .i64 d] 34)) (.cells #[.int .i64 a2, .int .i64 b2, .int .i64 c2, .int .i64 d2] 34)
    simpa using this)
  have HC1 := Lib.hid hc1
  have HC2 := Lib.hid hc2
  clear hc1 hc2
  obtain ⟨W, hW⟩ : ∃ W, W = ((w.alloc (.cells #[.int .i64 a, .int .i64 b, .int .i64 c, .int .i64 d] 34)).alloc (.cells #[.int .i64 a2, .int .i64 b2, .int .i64 c2, .int .i64 d2] 34)) := ⟨_, rfl⟩
  rw [← hW] at HC1 HC2 hbw
  have HW := Lib.hid hW
  clear hW
  go_enter Try.func47, Try.ntmps47
  go_wp2
  rw [← HW.out]
  clear HW
  go_loopw [5] (fun i wr => ∃ k : Nat, k ≤ 4 ∧ i = .int .i64 ((k : Int) - 1) ∧ Hid (∀ j, k ≤ j → j < 4 → ex (a, b, c, d) j = ex (a2, b2, c2, d2) j) ∧ Hid (Drawn W wr)) (fun i _ => (intOf i + 1).toNat)
  case atStart => exact ⟨4, by omega, rfl, Lib.hid (fun j hj hj4 => absurd hj (by omega)), Lib.hid (Drawn.refl _)⟩
  case round =>
    obtain ⟨k, hk, rfl, HV, Hw⟩ := hrel
    obtain ⟨m, hm⟩ := Hw.out
    subst hm
    rcases k with _ | k
    · have HF := Lib.hid (cmpTo_eq (e := (a, b, c, d)) (f := (a2, b2, c2, d2)) fun j hj => HV.out j (by omega) hj)
      go_wp2
      go_ret
      exact ⟨by rw [HF.out]; rfl, hbw.trans (((Drawn.refl _).drewN m).below _)⟩
    · have hx := HC1.out k (by omega)
      have hy := HC2.out k (by omega)
      have HV' := Lib.hid (show ∀ j, k < j → j < 4 → ex (a, b, c, d) j = ex (a2, b2, c2, d2) j from fun j hj h4 => HV.out j (by omega) h4)
      have e1 : (((k + 1 : Nat) : Int) - 1) = (k : Int) := by omega
      rw [e1]
      clear e1 HV
      have i0 : (0 : Int) ≤ (k : Int) := by omega
      have i1 : (k : Int) < 4 := by omega
      rcases Int.lt_trichotomy (ex (a, b, c, d) k) (ex (a2, b2, c2, d2) k) with hd | hd | hd
      · have HF := Lib.hid (cmpTo_lt (by omega) HV'.out hd)
        generalize ex (a, b, c, d) k = x at *
        generalize ex (a2, b2, c2, d2) k = y at *
        have hb1 : (x != y) = true := by rw [bne_iff_ne]; omega
        clear HV'
        go_wp2
        go_quiet (fail)
        go_wp2
        go_quiet (fail)
        go_wp2
        go_ret
        refine ⟨by rw [HF.out]; rfl, hbw.trans (Drawn.below ?_ _)⟩
        repeat (first | exact Drawn.refl _ | refine Drawn.drewN ?_ _)
      · have HV2 := Lib.hid (show ∀ j, k ≤ j → j < 4 → ex (a, b, c, d) j = ex (a2, b2, c2, d2) j from fun j hj h4 => by
          rcases Nat.eq_or_lt_of_le hj with h1 | h1
          · rw [← h1]; exact hd
          · exact HV'.out j h1 h4)
        generalize ex (a, b, c, d) k = x at *
        generalize ex (a2, b2, c2, d2) k = y at *
        have hb1 : (x != y) = false := by rw [hd]; simp
        have HD := Lib.hid hd
        clear HV' hd
        go_wp2
        go_quiet (fail)
        go_wp2
        go_roundw
        case rel => exact ⟨k, by omega, by go_num, HV2, Lib.hid (by repeat (first | exact Drawn.refl _ | refine Drawn.drewN ?_ _))⟩
        case measure => simp [intOf]
      · have HF := Lib.hid (cmpTo_gt (by omega) HV'.out hd)
        generalize ex (a, b, c, d) k = x at *
        generalize ex (a2, b2, c2, d2) k = y at *
        have hb1 : (x != y) = true := by rw [bne_iff_ne]; omega
        clear HV'
        go_wp2
        go_quiet (fail)
        go_wp2
        go_quiet (fail)
        go_wp2
        go_ret
        refine ⟨by rw [HF.out]; rfl, hbw.trans (Drawn.below ?_ _)⟩
        repeat (first | exact Drawn.refl _ | refine Drawn.drewN ?_ _)
end Go.Proofs.Ytnknidfpkmnncaa
