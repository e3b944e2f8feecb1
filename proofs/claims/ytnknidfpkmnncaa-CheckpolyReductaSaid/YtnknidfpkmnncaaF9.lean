/- checkpoly.Level, constant; Reducta's closure; the library's Clone. -/
import Derived.Test.YtnknidfpkmnncaaF8
namespace Go.Proofs.Ytnknidfpkmnncaa
open Go.RowKit

/-- The highest level at which e is positive, at least m. -/
def levE (e : Ex) (m : Nat) : Nat → Nat
  | 0 => m
  | k + 1 => if 0 < ex e k then max (levE e m k) (k + 1) else levE e m k
def levL (al : List Tm) : Nat := al.foldl (fun m p => levE p.2 m 4) 0
theorem levL_step {al : List Tm} {k : Nat} {p : Tm} (h : al[k]? = some p) : levL (al.take (k + 1)) = levE p.2 (levL (al.take k)) 4 := by
  unfold levL
  rw [List.take_add_one, h, List.foldl_append]
  rfl
theorem levE_le {e : Ex} {m : Nat} (hm : m ≤ 4) : ∀ k, k ≤ 4 → levE e m k ≤ 4 := by
  intro k
  induction k with
  | zero => intro _; exact hm
  | succ k ih =>
    intro hk
    have := ih (by omega)
    unfold levE
    split <;> omega
theorem levL_le (al : List Tm) : levL al ≤ 4 := by
  have : ∀ (al : List Tm) (m : Nat), m ≤ 4 → al.foldl (fun m p => levE p.2 m 4) m ≤ 4 := by
    intro al
    induction al with
    | nil => intro m hm; exact hm
    | cons p al ih => intro m hm; exact ih _ (levE_le hm 4 (by omega))
  exact this al 0 (by omega)

set_option maxRecDepth 100000 in
set_option maxHeartbeats 2000000 in
theorem level_any (B : Nat) (A : Option Addr) (n c : Nat) (al : List Tm) (w : World) (hB : B ≤ w.heap.size) (h : PolyW B w A n c al) (hn : n < sortLim) (hl : l1 al < big) :
    Calls Try.prog 34 #[.slice A n c] w (ValP (.int .i64 (levL (nf al) : Nat)) w) := by
  have hnm : n ≤ 1073741824 := by unfold sortLim at hn; omega
  have HN := Lib.hid (normalp_any B A n c al w hB h hn hl)
  have HL := Lib.hid (show (nf al).length ≤ n by have h4 := length_nf al; have h5 := h.len; omega)
  generalize nf al = a at *
  clear h hl
  go_enter Try.func34, Try.ntmps34
  go_wp2_with fail
  refine HN.out.mono ?_
  rintro e w1 ⟨A', n', c', rfl, h1, hb1⟩
  have hl1 : n' ≤ n := by have h3 := h1.len; have := HL.out; omega
  have hc1 := h1.cap
  have hws := hb1.size
  go_wp2_with fail
  go_loopw [3, 11] (fun v i wr => ∃ (k m : Nat), k ≤ n' ∧ i = .int .i64 k ∧ v = .int .i64 m ∧ m ≤ 4 ∧ Below w1.heap.size w1 wr ∧ Hid (levL (a.take k) = m)) (fun _ i _ => n' - (intOf i).toNat)
  case atStart => exact ⟨0, 0, Nat.zero_le _, rfl, rfl, by omega, Below.refl _ _, Lib.hid rfl⟩
  case round =>
    obtain ⟨W0, rfl⟩ : ∃ y, y = wr := ⟨_, rfl⟩
    obtain ⟨k, m, hk, rfl, rfl, hm4, hb, HV⟩ := hrel
    by_cases hkn : k < n'
    · obtain ⟨b, off, rfl, hs1, HT⟩ := h1.term (by omega)
      obtain ⟨t, p, hp, hte, hcf, hh2, hh4⟩ := HT k hkn
      obtain ⟨c0, c1⟩ := held2_below hh2 hb hs1
      obtain ⟨d0, d1, d2, d3⟩ := held4_below hh4 hb hs1
      have HP := Lib.hid hp
      have HTE := Lib.hid hte
      have i0' : (0 : Int) ≤ (k : Int) := by omega
      have i1 : (k : Int) < (n' : Int) := by omega
      clear HT hp hte hcf hh2 hh4
      have hbx := hb.alloc hb.size (.cells #[.bool t.neg, .slice t.A t.n t.c, .int .i64 t.e.1, .int .i64 t.e.2.1, .int .i64 t.e.2.2.1, .int .i64 t.e.2.2.2] 80)
      go_wp2_with fail
      go_loop [3, 17] (fun v i => ∃ (j q : Nat), j ≤ 4 ∧ i = .int .i64 j ∧ v = .int .i64 q ∧ q ≤ 4 ∧ Hid (levE t.e m j = q)) (fun _ i => 4 - (intOf i).toNat)
      case atStart => exact ⟨0, m, by omega, rfl, rfl, hm4, Lib.hid rfl⟩
      case round =>
        obtain ⟨j, q, hj, rfl, rfl, hq4, HQ⟩ := hrel
        by_cases hj4 : j < 4
        · have hix := ind_any t.e.1 t.e.2.1 t.e.2.2.1 t.e.2.2.2 j hj4
          have j0 : (0 : Int) ≤ (j : Int) := by omega
          have j1 : (j : Int) < 4 := by omega
          by_cases hx : 0 < ex t.e j
          · have HS := Lib.hid (show levE t.e m (j + 1) = max q (j + 1) by rw [levE, if_pos hx, HQ.out])
            have hx' : 0 < ex (t.e.1, t.e.2.1, t.e.2.2.1, t.e.2.2.2) j := hx
            clear hx
            generalize ex (t.e.1, t.e.2.1, t.e.2.2.1, t.e.2.2.2) j = x at hix hx'
            by_cases hqj : q ≤ j
            · go_wp2_with fail
              go_round
              case rel => exact ⟨j + 1, j + 1, by omega, by go_num, by first | rfl | (congr 1; split <;> omega) | go_num, by omega, Lib.hid (by rw [HS.out]; omega)⟩
              case measure => simp [intOf]; omega
            · go_wp2_with fail
              go_round
              case rel => exact ⟨j + 1, q, by omega, by go_num, by first | rfl | (congr 1; split <;> omega) | go_num, by omega, Lib.hid (by rw [HS.out]; omega)⟩
              case measure => simp [intOf]; omega
          · have HS := Lib.hid (show levE t.e m (j + 1) = q by rw [levE, if_neg hx, HQ.out])
            have hx' : ¬ 0 < ex (t.e.1, t.e.2.1, t.e.2.2.1, t.e.2.2.2) j := hx
            clear hx
            generalize ex (t.e.1, t.e.2.1, t.e.2.2.1, t.e.2.2.2) j = x at hix hx'
            go_wp2_with fail
            go_round
            case rel => exact ⟨j + 1, q, by omega, by go_num, rfl, hq4, HS⟩
            case measure => simp [intOf]; omega
        · obtain rfl : j = 4 := by omega
          have HF := Lib.hid (show levL (a.take (k + 1)) = q by rw [levL_step HP.out, HV.out, ← HTE.out]; exact HQ.out)
          go_wp2_with fail
          go_roundw
          case rel => exact ⟨k + 1, q, by omega, by go_num, rfl, hq4, hbx, HF⟩
          case measure => simp [intOf]; omega
    · obtain rfl : k = n' := by omega
      have HF := Lib.hid (show levL a = m by have h2 := HV.out; rwa [List.take_of_length_le (by rw [h1.len]; exact Nat.le_refl _)] at h2)
      go_wp2
      go_ret
      exact ⟨by rw [HF.out]; rfl, hb1.trans (hb.mono hws)⟩
theorem constant_any (B : Nat) (A : Option Addr) (n c : Nat) (al : List Tm) (w : World) (hB : B ≤ w.heap.size) (h : PolyW B w A n c al) (hn : n < sortLim) (hl : l1 al < big) :
    Calls Try.prog 60 #[.slice A n c] w (ValP (.bool (decide (levL (nf al) = 0))) w) := by
  have HN := Lib.hid (level_any B A n c al w hB h hn hl)
  generalize levL (nf al) = m at *
  have HD := Lib.hid (show ((m : Int) == 0) = decide (m = 0) by rw [Bool.eq_iff_iff, beq_iff_eq, decide_eq_true_eq]; omega)
  clear h hl
  go_enter Try.func60, Try.ntmps60
  go_wp2_with fail
  refine HN.out.mono ?_
  rintro e w1 ⟨rfl, hb1⟩
  go_wp2
  go_ret
  exact ⟨by rw [← HD.out]; simp, hb1⟩
end Go.Proofs.Ytnknidfpkmnncaa
