/- The law's order of exponents; few terms. -/
import Derived.Test.YtnknidfpkmnncaaD1
namespace Go.Proofs.Ytnknidfpkmnncaa
open Go.RowKit

set_option maxRecDepth 100000 in
set_option maxHeartbeats 1000000 in
theorem greater_any (e f : Ex) (w : World) : Calls Try.prog 53 #[.agg #[.int .i64 e.1, .int .i64 e.2.1, .int .i64 e.2.2.1, .int .i64 e.2.2.2], .agg #[.int .i64 f.1, .int .i64 f.2.1, .int .i64 f.2.2.1, .int .i64 f.2.2.2]] w (ValP (.bool (decide (0 < cmpE e f))) w) := by
  obtain ⟨a, b, c, d⟩ := e
  obtain ⟨a2, b2, c2, d2⟩ := f
  have hbw := below_box2 w (.cells #[.int .i64 a, .int .i64 b, .int .i64 c, .int .i64 d] 34) (.cells #[.int .i64 a2, .int .i64 b2, .int .i64 c2, .int .i64 d2] 34)
  have hc1 := ex_cell ((w.alloc (.cells #[.int .i64 a, .int .i64 b, .int .i64 c, .int .i64 d] 34)).alloc (.cells #[.int .i64 a2, .int .i64 b2, .int .i64 c2, .int .i64 d2] 34)) w.heap.size a b c d (by rw [Below.heap_alloc _ _ _ (by simp)]; exact heap_alloc_new w _)
  have hc2 := ex_cell ((w.alloc (.cells #[.int .i64 a, .int .i64 b, .int .i64 c, .int .i64 d] 34)).alloc (.cells #[.int .i64 a2, .int .i64 b2, .int .i64 c2, .int .i64 d2] 34)) (w.heap.size + 1) a2 b2 c2 d2 (by
    have := heap_alloc_new (w.alloc (.cells #[.int .i64 a, .int .i64 b, .int .i64 c, .int .i64 d] 34)) (.cells #[.int .i64 a2, .int .i64 b2, .int .i64 c2, .int .i64 d2] 34)
    simpa using this)
  have HC1 := Lib.hid hc1
  have HC2 := Lib.hid hc2
  clear hc1 hc2
  obtain ⟨W, hW⟩ : ∃ W, W = ((w.alloc (.cells #[.int .i64 a, .int .i64 b, .int .i64 c, .int .i64 d] 34)).alloc (.cells #[.int .i64 a2, .int .i64 b2, .int .i64 c2, .int .i64 d2] 34)) := ⟨_, rfl⟩
  rw [← hW] at HC1 HC2 hbw
  have HW := Lib.hid hW
  clear hW
  go_enter Try.func53, Try.ntmps53
  go_wp2
  rw [← HW.out]
  clear HW
  go_loopw [5] (fun i wr => ∃ k : Nat, k ≤ 4 ∧ i = .int .i64 ((k : Int) - 1) ∧ Hid (∀ j, k ≤ j → j < 4 → ex (a, b, c, d) j = ex (a2, b2, c2, d2) j) ∧ Hid (Drawn W wr)) (fun i _ => (intOf i + 1).toNat)
  case atStart => exact ⟨4, by omega, rfl, Lib.hid (fun j hj hj4 => absurd hj (by omega)), Lib.hid (Drawn.refl _)⟩
  case round =>
    obtain ⟨k, hk, rfl, HV, Hw⟩ := hrel
    obtain ⟨m, hm⟩ := Hw.out
    subst hm
    rcases k with _ | k
    · have HF := Lib.hid (cmpTo_eq (e := (a, b, c, d)) (f := (a2, b2, c2, d2)) fun j hj => HV.out j (by omega) hj)
      go_wp2
      go_ret
      exact ⟨by rw [HF.out]; rfl, hbw.trans (((Drawn.refl _).drewN m).below _)⟩
    · have hx := HC1.out k (by omega)
      have hy := HC2.out k (by omega)
      have HV' := Lib.hid (show ∀ j, k < j → j < 4 → ex (a, b, c, d) j = ex (a2, b2, c2, d2) j from fun j hj h4 => HV.out j (by omega) h4)
      have e1 : (((k + 1 : Nat) : Int) - 1) = (k : Int) := by omega
      rw [e1]
      clear e1 HV
      have i0 : (0 : Int) ≤ (k : Int) := by omega
      have i1 : (k : Int) < 4 := by omega
      rcases Int.lt_trichotomy (ex (a, b, c, d) k) (ex (a2, b2, c2, d2) k) with hd | hd | hd
      · have HF := Lib.hid (cmpTo_lt (by omega) HV'.out hd)
        generalize ex (a, b, c, d) k = x at *
        generalize ex (a2, b2, c2, d2) k = y at *
        have hb1 : (x != y) = true := by rw [bne_iff_ne]; omega
        clear HV'
        go_wp2
        go_quiet (fail)
        go_wp2
        go_quiet (fail)
        go_wp2
        go_ret
        refine ⟨by rw [HF.out]; show Ending.returned (Value.bool (decide (y < x))) = _; rw [decide_eq_false (by omega)]; rfl, hbw.trans (Drawn.below ?_ _)⟩
        repeat (first | exact Drawn.refl _ | refine Drawn.drewN ?_ _)
      · have HV2 := Lib.hid (show ∀ j, k ≤ j → j < 4 → ex (a, b, c, d) j = ex (a2, b2, c2, d2) j from fun j hj h4 => by
          rcases Nat.eq_or_lt_of_le hj with h1 | h1
          · rw [← h1]; exact hd
          · exact HV'.out j h1 h4)
        generalize ex (a, b, c, d) k = x at *
        generalize ex (a2, b2, c2, d2) k = y at *
        have hb1 : (x != y) = false := by rw [hd]; simp
        have HD := Lib.hid hd
        clear HV' hd
        go_wp2
        go_quiet (fail)
        go_wp2
        go_roundw
        case rel => exact ⟨k, by omega, by go_num, HV2, Lib.hid (by repeat (first | exact Drawn.refl _ | refine Drawn.drewN ?_ _))⟩
        case measure => simp [intOf]
      · have HF := Lib.hid (cmpTo_gt (by omega) HV'.out hd)
        generalize ex (a, b, c, d) k = x at *
        generalize ex (a2, b2, c2, d2) k = y at *
        have hb1 : (x != y) = true := by rw [bne_iff_ne]; omega
        clear HV'
        go_wp2
        go_quiet (fail)
        go_wp2
        go_quiet (fail)
        go_wp2
        go_ret
        refine ⟨by rw [HF.out]; rfl, hbw.trans (Drawn.below ?_ _)⟩
        repeat (first | exact Drawn.refl _ | refine Drawn.drewN ?_ _)

/-- A drawn polynomial's term: coefficient and exponents. -/
abbrev Mono := Int × Ex
def flatM (L : List Mono) : List Value := L.flatMap fun m => [.int .i8 m.1, .int .u8 m.2.1, .int .u8 m.2.2.1, .int .u8 m.2.2.2.1, .int .u8 m.2.2.2.2]
/-- What each exponent of the first k terms is at most. -/
def small (m : Mono) : Prop := ∀ j, j < 4 → ex m.2 j ≤ 2
/-- The slice of a drawn polynomial. -/
structure MonoR (B : Nat) (w : World) (A : Option Addr) (n c : Nat) (L : List Mono) : Prop where
  row : Row B 78 w A n c 5 (flatM L)
  lenL : L.length = n
  rng : ∀ m ∈ L, -128 ≤ m.1 ∧ m.1 ≤ 127 ∧ ∀ j, 0 ≤ ex m.2 j ∧ ex m.2 j ≤ 255

theorem digs_one {m : Nat} (h : 0 < m) (h2 : m < 4294967296) : digs m = [m] := by
  rw [digs_pos (by omega), Nat.div_eq_of_lt h2, digs_zero, Nat.mod_eq_of_lt h2]
theorem one_dig (B : Nat) (w : World) (o : Obj) (m : Nat) (h : 0 < m) (h2 : m < 4294967296) : Dig B ((w.alloc o).alloc (.cells #[.int .u32 (m : Int)] 109)) (some ⟨w.heap.size + 1, 0, none⟩) 1 1 (digs m) := by
  have h1 := Row.new B 109 (w.alloc o) 1 1 #[.int .u32 (m : Int)] rfl (by omega)
  rw [show (w.alloc o).heap.size = w.heap.size + 1 by simp] at h1
  refine ⟨?_, digs_lt32 m⟩
  rw [digs_one h h2]
  exact h1
set_option maxRecDepth 100000 in
set_option maxHeartbeats 1000000 in
theorem int_any (B : Nat) (z : Int) (hz : -128 ≤ z) (hz2 : z ≤ 127) (w : World) : Calls Try.prog 52 #[.int .i8 z] w (IntP B z w) := by
  rcases Int.lt_trichotomy z 0 with h | h | h
  · obtain ⟨m, rfl⟩ : ∃ m : Nat, z = -(m : Int) := ⟨z.natAbs, by omega⟩
    go_enter Try.func52, Try.ntmps52
    go_wp2
    refine bodyPost_ret (v := .agg #[.bool true, .slice (some ⟨w.heap.size + 1, 0, none⟩) 1 1]) (by simp [results, Try.results52, go_sem]) rfl ?_
    refine ⟨some ⟨w.heap.size + 1, 0, none⟩, 1, 1, by rw [decide_eq_true h], ?_, ((Below.refl _ _).alloc (Nat.le_refl _) _).alloc (by simp) _⟩
    rw [show (-(m : Int)).natAbs = m by omega]
    exact one_dig B w _ m (by omega) (by omega)
  · subst h
    go_enter Try.func52, Try.ntmps52
    go_wp2
    refine bodyPost_ret (v := .agg #[.bool false, .slice none 0 0]) (by simp [results, Try.results52, go_sem]) rfl ?_
    refine ⟨none, 0, 0, rfl, ?_, (Below.refl _ _).alloc (Nat.le_refl _) _⟩
    show Dig B _ none 0 0 (digs 0)
    rw [digs_zero]
    exact Dig.nil
  · obtain ⟨m, rfl⟩ : ∃ m : Nat, z = (m : Int) := ⟨z.natAbs, by omega⟩
    go_enter Try.func52, Try.ntmps52
    go_wp2
    refine bodyPost_ret (v := .agg #[.bool false, .slice (some ⟨w.heap.size + 1, 0, none⟩) 1 1]) (by simp [results, Try.results52, go_sem]) rfl ?_
    refine ⟨some ⟨w.heap.size + 1, 0, none⟩, 1, 1, by rw [decide_eq_false (by omega)], ?_, ((Below.refl _ _).alloc (Nat.le_refl _) _).alloc (by simp) _⟩
    exact one_dig B w _ m (by omega) (by omega)

/-- All exponents of these terms are at most y. -/
def FewL (L : List Mono) (y : Int) : Prop := ∀ m ∈ L, ∀ j, j < 4 → ex m.2 j ≤ y
theorem flatM_at (L : List Mono) (i : Nat) (m : Mono) (h : L[i]? = some m) (j : Nat) (hj : j < 4) : (flatM L)[i * 5 + 1 + j]? = some (.int .u8 (ex m.2 j)) := by
  induction L generalizing i with
  | nil => simp at h
  | cons x L ih =>
    cases i with
    | zero =>
      simp at h
      subst h
      match j, hj with
      | 0, _ => rfl
      | 1, _ => rfl
      | 2, _ => rfl
      | 3, _ => rfl
    | succ i =>
      have h1 := ih i (by simpa using h)
      rw [show (i + 1) * 5 + 1 + j = 5 + (i * 5 + 1 + j) by omega]
      show ([_, _, _, _, _] ++ flatM L)[5 + (i * 5 + 1 + j)]? = _
      rw [List.getElem?_append_right (by simp)]
      simpa using h1
theorem flatM_coef (L : List Mono) (i : Nat) (m : Mono) (h : L[i]? = some m) : (flatM L)[i * 5]? = some (.int .i8 m.1) := by
  induction L generalizing i with
  | nil => simp at h
  | cons x L ih =>
    cases i with
    | zero => simp at h; subst h; rfl
    | succ i =>
      have h1 := ih i (by simpa using h)
      rw [show (i + 1) * 5 = 5 + i * 5 by omega]
      show ([_, _, _, _, _] ++ flatM L)[5 + i * 5]? = _
      rw [List.getElem?_append_right (by simp)]
      simpa using h1
/-- The cells of a drawn polynomial. -/
theorem MonoR.cells {B : Nat} {w : World} {A : Option Addr} {n c : Nat} {L : List Mono} (h : MonoR B w A n c L) (hn : 0 < n) : ∃ b off, A = some ⟨b, off, none⟩ ∧ b < w.heap.size ∧
    ∀ k, k < n → ∃ m, L[k]? = some m ∧ w.cell? ⟨b, off + k * 5, none⟩ = some (.int .i8 m.1) ∧ ∀ j, j < 4 → w.cell? ⟨b, off + k * 5 + 1 + j, none⟩ = some (.int .u8 (ex m.2 j)) := by
  obtain ⟨b, off, hA, hb, hc⟩ := h.row.flatAt hn (by omega)
  refine ⟨b, off, hA, hb, fun k hk => ?_⟩
  obtain ⟨m, hm⟩ : ∃ m, L[k]? = some m := ⟨_, List.getElem?_eq_getElem (by rw [h.lenL]; exact hk)⟩
  refine ⟨m, hm, hc _ _ (flatM_coef L k m hm), fun j hj => ?_⟩
  rw [show off + k * 5 + 1 + j = off + (k * 5 + 1 + j) by omega]
  exact hc _ _ (flatM_at L k m hm j hj)

/-- The answer of Few. -/
def FewP (n m : Nat) (y : Int) (L : List Mono) (w : World) (e : Ending) (w' : World) : Prop :=
  (∃ b, e = .returned (.bool b) ∧ (b = true ↔ n ≤ m ∧ FewL L y)) ∧ Below w.heap.size w w'
set_option maxRecDepth 100000 in
set_option maxHeartbeats 1000000 in
theorem few_any (B : Nat) (A : Option Addr) (n c m : Nat) (y : Int) (L : List Mono) (w : World) (h : MonoR B w A n c L) (hn : n ≤ 9223372036854775807) (hm : m ≤ 1073741824) (hy : 0 ≤ y) (hy2 : y ≤ 255) :
    Calls Try.prog 13 #[.slice A n c, .int .i64 m, .int .u8 y] w (FewP n m y L w) := by
  have hcap := h.row.cap
  go_enter Try.func13, Try.ntmps13
  by_cases hnm : m < n
  · go_wp2
    go_ret
    exact ⟨⟨false, rfl, by constructor <;> intro h1; cases h1; omega⟩, Below.refl _ _⟩
  · go_wp2
    go_loop [7] (fun i => ∃ k : Nat, k ≤ n ∧ i = .int .i64 k ∧ Hid (FewL (L.take k) y)) (fun i => n - (intOf i).toNat)
    case atStart => exact ⟨0, Nat.zero_le _, rfl, Lib.hid (by intro m hm; simp at hm)⟩
    case round =>
      obtain ⟨k, hk, rfl, HV⟩ := hrel
      by_cases hkn : k < n
      · obtain ⟨b, off, rfl, hb, hc⟩ := h.cells (by omega)
        obtain ⟨mo, hmo, hc0, hcj⟩ := hc k hkn
        have HM := Lib.hid hmo
        have HC := Lib.hid hcj
        have i0 : (0 : Int) ≤ (k : Int) := by omega
        have i1 : (k : Int) < (n : Int) := by omega
        clear hc hc0 hcj hmo
        go_wp2
        go_loop [8] (fun i => ∃ j : Nat, j ≤ 4 ∧ i = .int .i64 j ∧ Hid (∀ l, l < j → ex mo.2 l ≤ y)) (fun i => 4 - (intOf i).toNat)
        case atStart => exact ⟨0, Nat.zero_le _, rfl, Lib.hid (by intro l hl; omega)⟩
        case round =>
          obtain ⟨j, hj, rfl, HJ⟩ := hrel
          by_cases hj4 : j < 4
          · have hx := HC.out j hj4
            have j0 : (0 : Int) ≤ (j : Int) := by omega
            have j1 : (j : Int) < 4 := by omega
            by_cases hd : y < ex mo.2 j
            · have HD := Lib.hid hd
              generalize ex mo.2 j = x at hx hd
              go_wp2
              go_ret
              refine ⟨⟨false, rfl, ?_⟩, Below.refl _ _⟩
              constructor
              · intro h1; cases h1
              · intro h1
                exact absurd (h1.2 mo (List.mem_of_getElem? HM.out) j hj4) (Int.not_le.2 HD.out)
            · have HD := Lib.hid hd
              generalize ex mo.2 j = x at hx hd
              go_wp2
              go_round
              case rel => exact ⟨j + 1, by omega, by go_num, Lib.hid (by
                intro l hl
                rcases Nat.eq_or_lt_of_le (Nat.lt_succ_iff.1 hl) with h2 | h2
                · rw [h2]; exact Int.not_lt.1 HD.out
                · exact HJ.out l h2)⟩
              case measure => simp [intOf]; omega
          · have hj' : j = 4 := by omega
            subst hj'
            go_wp2
            go_round
            case rel => exact ⟨k + 1, by omega, by go_num, Lib.hid (by
              intro m2 hm2
              rw [List.take_add_one, HM.out] at hm2
              rcases List.mem_append.1 hm2 with h2 | h2
              · exact HV.out m2 h2
              · simp at h2; rw [h2]; exact HJ.out)⟩
            case measure => simp [intOf]; omega
      · have hkn' : k = n := by omega
        subst hkn'
        go_wp2
        go_ret
        refine ⟨⟨true, rfl, ?_⟩, Below.refl _ _⟩
        have h1 := HV.out
        rw [List.take_of_length_le (by rw [h.lenL]; exact Nat.le_refl _)] at h1
        exact ⟨fun _ => ⟨by omega, h1⟩, fun _ => rfl⟩
end Go.Proofs.Ytnknidfpkmnncaa
