/- checkpoly.Var, Degree. -/
import Derived.Test.YtnknidfpkmnncaaD2
namespace Go.Proofs.Ytnknidfpkmnncaa
open Go.RowKit

def unitE (i : Nat) : Ex := match i with
  | 1 => (1, 0, 0, 0)
  | 2 => (0, 1, 0, 0)
  | 3 => (0, 0, 1, 0)
  | _ => (0, 0, 0, 1)
/-- The polynomial x_i. -/
def varL (i : Nat) : List Tm := if 1 ≤ i ∧ i ≤ 4 then [(1, unitE i)] else []

theorem PolyC.one {B : Nat} {w : World} {A : Option Addr} {n c : Nat} {z : Int} (h : Dig B w A n c (digs z.natAbs)) (o : Obj) (e : Ex) (b : Bool) (hb : b = decide (z < 0)) :
    PolyC B ((w.alloc o).alloc (.cells #[.bool b, .slice A n c, .int .i64 e.1, .int .i64 e.2.1, .int .i64 e.2.2.1, .int .i64 e.2.2.2] 80)) (some ⟨w.heap.size + 1, 0, none⟩) 1 1 [(z, e)] := by
  subst hb
  have h1 := Row.new B 80 (w.alloc o) 1 6 #[.bool (decide (z < 0)), .slice A n c, .int .i64 e.1, .int .i64 e.2.1, .int .i64 e.2.2.1, .int .i64 e.2.2.2] rfl (by omega)
  rw [show (w.alloc o).heap.size = w.heap.size + 1 by simp] at h1
  exact ⟨[⟨decide (z < 0), A, n, c, e⟩], h1, Reps.one rfl ⟨rfl, h.below (((Below.refl _ _).alloc (Nat.le_refl _) _).alloc (by simp) _) (Nat.le_refl _)⟩⟩

set_option maxRecDepth 100000 in
set_option maxHeartbeats 1000000 in
theorem var_any (B i : Nat) (w : World) (hB : B ≤ w.heap.size) (h1 : 1 ≤ i) (h4 : i ≤ 4) : Calls Try.prog 35 #[.int .i64 i] w (PolyP B (varL i) w) := by
  have hi : i = 1 ∨ i = 2 ∨ i = 3 ∨ i = 4 := by omega
  unfold varL
  rw [if_pos ⟨h1, h4⟩]
  clear h1 h4
  rcases hi with rfl | rfl | rfl | rfl
  all_goals
    go_enter Try.func35, Try.ntmps35
    go_wp2_with fail
    refine (iof_any B 1 _ (by simpa using hB) (by omega) (by omega)).mono ?_
    rintro e w1 ⟨A1, n1, c1, rfl, h1, hb1⟩
    go_wp2
    go_ret
    exact ⟨_, _, _, rfl, (by first | exact PolyC.one h1 _ (unitE 1) false rfl | exact PolyC.one h1 _ (unitE 2) false rfl | exact PolyC.one h1 _ (unitE 3) false rfl | exact PolyC.one h1 _ (unitE 4) false rfl), hb1.trans (((Below.refl _ _).alloc hb1.size _).alloc (by have := hb1.size; simp; omega) _)⟩
/-- The highest exponent at j, or -1. -/
def degL (j : Nat) (al : List Tm) : Int := al.foldl (fun d p => max (max d 0) (ex p.2 j)) (-1)
theorem degL_step {al : List Tm} {k : Nat} {p : Tm} (h : al[k]? = some p) (j : Nat) : degL j (al.take (k + 1)) = max (max (degL j (al.take k)) 0) (ex p.2 j) := by
  unfold degL
  rw [List.take_add_one, h, List.foldl_append]
  rfl

set_option maxRecDepth 100000 in
set_option maxHeartbeats 1000000 in
theorem degree_any (B j : Nat) (A : Option Addr) (n c : Nat) (al : List Tm) (w : World) (hB : B ≤ w.heap.size) (h : PolyW B w A n c al) (hn : n < sortLim) (hl : l1 al < big) (hj : j < 4) :
    Calls Try.prog 32 #[.slice A n c, .int .i64 ((j : Int) + 1)] w (ValP (.int .i64 (degL j (nf al))) w) := by
  have hnm : n ≤ 1073741824 := by unfold sortLim at hn; omega
  go_enter Try.func32, Try.ntmps32
  go_wp2_with fail
  refine (normalp_any B A n c al _ hB h hn hl).mono ?_
  rintro e w1 ⟨A', n', c', rfl, h1, hb1⟩
  have hl1 : n' ≤ n := by have h3 := h1.len; have h4 := length_nf al; have h5 := h.len; omega
  have hc1 := h1.cap
  generalize nf al = a at *
  clear h hl
  go_wp2
  go_loopw [5, 11] (fun d i wr => ∃ (k : Nat) (z : Int), k ≤ n' ∧ i = .int .i64 k ∧ d = .int .i64 z ∧ Below w1.heap.size w1 wr ∧ Hid (degL j (a.take k) = z)) (fun _ i _ => n' - (intOf i).toNat)
  case atStart => exact ⟨0, -1, Nat.zero_le _, rfl, rfl, Below.refl _ _, Lib.hid rfl⟩
  case round =>
    obtain ⟨k, z, hk, rfl, rfl, hb, HV⟩ := hrel
    by_cases hkn : k < n'
    · obtain ⟨b, off, rfl, hs1, HT⟩ := h1.term (by omega)
      obtain ⟨t, p, hp, hte, hcf, hh2, hh4⟩ := HT k hkn
      have hh2' := held2_below hh2 hb hs1
      have hh4' := held4_below hh4 hb hs1
      obtain ⟨c0, c1⟩ := hh2'
      obtain ⟨d0, d1, d2, d3⟩ := hh4'
      have HP := Lib.hid hp
      have HTE := Lib.hid hte
      have i0 : (0 : Int) ≤ (k : Int) := by omega
      have i1 : (k : Int) < (n' : Int) := by omega
      clear HT hp hte hcf hh2 hh4
      have hx : [Value.bool t.neg, Value.slice t.A t.n t.c, Value.int .i64 t.e.1, Value.int .i64 t.e.2.1, Value.int .i64 t.e.2.2.1, Value.int .i64 t.e.2.2.2][2 + j]? = some (.int .i64 (ex t.e j)) := by
        match j, hj with
        | 0, _ => rfl
        | 1, _ => rfl
        | 2, _ => rfl
        | 3, _ => rfl
      have HZ := Lib.hid (show degL j (a.take (k + 1)) = max (max z 0) (ex t.e j) by rw [degL_step HP.out, HV.out, HTE.out])
      have hbx := hb.alloc hb.size (.cells #[.bool t.neg, .slice t.A t.n t.c, .int .i64 t.e.1, .int .i64 t.e.2.1, .int .i64 t.e.2.2.1, .int .i64 t.e.2.2.2] 80)
      generalize ex t.e j = x at hx HZ
      rcases Int.lt_or_le z 0 with hz | hz
      · rcases Int.lt_or_le x 0 with hx0 | hx0
        · go_wp2
          go_roundw
          case rel => exact ⟨k + 1, 0, by omega, by go_num, rfl, hbx, Lib.hid (by rw [HZ.out]; omega)⟩
          case measure => simp [intOf]; omega
        · go_wp2
          go_roundw
          case rel => exact ⟨k + 1, x, by omega, by go_num, (by congr 1; split <;> omega), hbx, Lib.hid (by rw [HZ.out]; omega)⟩
          case measure => simp [intOf]; omega
      · rcases Int.lt_or_le x z with hx0 | hx0
        · go_wp2
          go_roundw
          case rel => exact ⟨k + 1, z, by omega, by go_num, rfl, hbx, Lib.hid (by rw [HZ.out]; omega)⟩
          case measure => simp [intOf]; omega
        · go_wp2
          go_roundw
          case rel => exact ⟨k + 1, x, by omega, by go_num, (by congr 1; split <;> omega), hbx, Lib.hid (by rw [HZ.out]; omega)⟩
          case measure => simp [intOf]; omega
    · have hkn' : k = n' := by omega
      subst hkn'
      have HF := Lib.hid (show degL j a = z by have h2 := HV.out; rwa [List.take_of_length_le (by rw [h1.len]; exact Nat.le_refl _)] at h2)
      go_wp2
      go_ret
      exact ⟨by rw [HF.out]; rfl, hb1.trans (hb.mono hb1.size)⟩
end Go.Proofs.Ytnknidfpkmnncaa
