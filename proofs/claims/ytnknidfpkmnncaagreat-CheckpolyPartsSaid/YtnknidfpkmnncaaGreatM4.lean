/- D8, D9, DA, F1, F2, F8, F9, R1, R2, R3, G1, G2, G3, V1. -/
import Derived.Test.YtnknidfpkmnncaaGreatM3
import Derived.Lib.AppendZeros
import Derived.WalkSpells
/- The law's equal. -/
namespace Go.Proofs.YtnknidfpkmnncaaGreat
open Go.RowKit

theorem take_eq_all {a b : List Tm} {k : Nat} (h : a.take k = b.take k) (ha : a.length = k) (hb : b.length = k) : a = b := by
  rwa [List.take_of_length_le (by omega), List.take_of_length_le (by omega)] at h

set_option maxRecDepth 100000 in
set_option maxHeartbeats 4000000 in
theorem equal_any (B : Nat) (A A2 : Option Addr) (n c n2 c2 : Nat) (a b : List Tm) (w : World) (h12 : PolyC B w A n c a) (h22 : PolyC B w A2 n2 c2 b) (hnm : n ≤ 1073741824) (hnm2 : n2 ≤ 1073741824) :
    Calls Tryz.prog 19 #[.slice A n c, .slice A2 n2 c2] w (ValP (.bool (decide (a = b))) w) := by
  have hc1 := h12.cap
  have hc2 := h22.cap
  have HA := Lib.hid h12.len
  have HB := Lib.hid h22.len
  go_enter Tryz.func19, Tryz.ntmps19
  by_cases hnn : n = n2
  · obtain rfl := hnn
    go_wp2
    go_loopw [5] (fun i wr => ∃ k : Nat, k ≤ n ∧ i = .int .i64 k ∧ Below w.heap.size w wr ∧ Hid (a.take k = b.take k)) (fun i _ => n - (intOf i).toNat)
    case atStart => exact ⟨0, Nat.zero_le _, rfl, Below.refl _ _, Lib.hid (by simp)⟩
    case round =>
      obtain ⟨k, hk, rfl, hb, HV⟩ := hrel
      by_cases hka : k < n
      · have i0 : (0 : Int) ≤ (k : Int) := by omega
        have i1 : (k : Int) < (n : Int) := by omega
        obtain ⟨b1, off1, rfl, hs1, HT1⟩ := h12.term (by omega)
        obtain ⟨b2, off2, rfl, hs2, HT2⟩ := h22.term (by omega)
        obtain ⟨t, p, hp, hte, hcf, hh2, hh4⟩ := HT1 k (by omega)
        obtain ⟨s, q, hq, hse, hcf2, hg2, hg4⟩ := HT2 k (by omega)
        have HP := Lib.hid hp
        have HQ := Lib.hid hq
        have HTE := Lib.hid hte
        have HSE := Lib.hid hse
        have HC1 := Lib.hid hcf
        have HC2 := Lib.hid hcf2
        have hS0 : (Held4 wr b1 (off1 + k * 6) t.e ∧ Held4 wr b2 (off2 + k * 6) s.e) ∧ (Held2 wr b1 (off1 + k * 6) t ∧ Held2 wr b2 (off2 + k * 6) s) := ⟨⟨held4_below hh4 hb hs1, held4_below hg4 hb hs2⟩, ⟨held2_below hh2 hb hs1, held2_below hg2 hb hs2⟩⟩
        have hgd := fun (x y : Operand) (W : World) => guard_ex .neq #[.int .i64 t.e.1, .int .i64 t.e.2.1, .int .i64 t.e.2.2.1, .int .i64 t.e.2.2.2] #[.int .i64 s.e.1, .int .i64 s.e.2.1, .int .i64 s.e.2.2.1, .int .i64 s.e.2.2.2] x y W
        have hS1 : (Held4 wr.drew b1 (off1 + k * 6) t.e ∧ Held4 wr.drew b2 (off2 + k * 6) s.e) ∧ (Held2 wr.drew b1 (off1 + k * 6) t ∧ Held2 wr.drew b2 (off2 + k * 6) s) := hS0
        clear HT1 HT2 hcf hcf2 hh2 hh4 hg2 hg4 hp hq hte hse
        by_cases hE : t.e = s.e
        · have hnq : ∀ W : World, (binOp .neq 55 (.agg #[.int .i64 t.e.1, .int .i64 t.e.2.1, .int .i64 t.e.2.2.1, .int .i64 t.e.2.2.2]) (.agg #[.int .i64 s.e.1, .int .i64 s.e.2.1, .int .i64 s.e.2.2.1, .int .i64 s.e.2.2.2])).run Tryz.prog W = .ok (.bool false) W := fun W => by
            rw [neq_ex, hE]; simp
          have HEE := Lib.hid hE
          clear hE
          obtain ⟨y, hy⟩ : ∃ y, cmpI p.1 q.1 = y := ⟨_, rfl⟩
          have HY := Lib.hid hy
          clear hy
          have hdx := (HC1.out.2.below hb (Nat.le_refl _)).drew
          have hdy := (HC2.out.2.below hb (Nat.le_refl _)).drew
          have HN1 := Lib.hid (show cmpI (iv t.neg (val (digs p.1.natAbs))) (iv s.neg (val (digs q.1.natAbs))) = y from by rw [CoefC.eq HC1.out, CoefC.eq HC2.out]; exact HY.out)
          go_wp2
          go_region_held3 (fun w' => (Held4 w' b1 (off1 + k * 6) t.e ∧ Held4 w' b2 (off2 + k * 6) s.e) ∧ (Held2 w' b1 (off1 + k * 6) t ∧ Held2 w' b2 (off2 + k * 6) s)) (first | exact hS1 | exact hS5 | go_keep)
            (first
              | (go_at_call 51; ((with_reducible refine (icmp_any B t.neg s.neg t.A s.A t.n t.c s.n s.c _ _ _ hdx hdy).mono ?_); rw [HN1.out]; rintro e w5 ⟨rfl, hbw5⟩; have hS5 := And.intro (And.intro (held4_below (w := wr.drew) hS1.1.1 hbw5 (Nat.lt_of_lt_of_le hs1 hb.size)) (held4_below (w := wr.drew) hS1.1.2 hbw5 (Nat.lt_of_lt_of_le hs2 hb.size))) (And.intro (held2_below (w := wr.drew) hS1.2.1 hbw5 (Nat.lt_of_lt_of_le hs1 hb.size)) (held2_below (w := wr.drew) hS1.2.2 hbw5 (Nat.lt_of_lt_of_le hs2 hb.size))))))
          have hb5 := hb.drew.trans (hbw5.mono hb.size)
          clear hS0 hS1 hS5 hdx hdy hnq hgd
          rcases Decidable.em (y = 0) with hy0 | hy0
          · subst hy0
            go_wp2
            go_roundw
            case rel => exact ⟨k + 1, by omega, by go_num, hb5, Lib.hid (take_step HV.out HP.out HQ.out (cmpE_zero.2 (by rw [← HTE.out, ← HSE.out]; exact HEE.out)) HY.out)⟩
            case measure => simp [intOf]; omega
          · have HF := Lib.hid (show a ≠ b from fun e => hy0 (by
              have h1 := HP.out
              rw [e, HQ.out] at h1
              injection h1 with h1
              rw [← HY.out, h1]
              exact cmpI_zero.2 rfl))
            go_wp2
            go_ret
            exact ⟨by rw [decide_eq_false HF.out]; rfl, hb5⟩
        · have hnq : ∀ W : World, (binOp .neq 55 (.agg #[.int .i64 t.e.1, .int .i64 t.e.2.1, .int .i64 t.e.2.2.1, .int .i64 t.e.2.2.2]) (.agg #[.int .i64 s.e.1, .int .i64 s.e.2.1, .int .i64 s.e.2.2.1, .int .i64 s.e.2.2.2])).run Tryz.prog W = .ok (.bool true) W := fun W => by
            rw [neq_ex, beq_eq_false_iff_ne.2 hE]; rfl
          have HEE := Lib.hid hE
          clear hE hS1
          obtain ⟨⟨⟨d0, d1, d2, d3⟩, x0, x1, x2, x3⟩, ⟨c0, c1⟩, y0, y1⟩ := hS0
          go_wp2
          have HF := Lib.hid (show a ≠ b from fun e => HEE.out (by
              have h1 := HP.out
              rw [e, HQ.out] at h1
              injection h1 with h1
              rw [HTE.out, HSE.out, h1]))
          go_quiet (fail)
          go_wp2
          go_ret
          refine ⟨by rw [decide_eq_false HF.out]; rfl, hb.trans (((Drawn.below ?_ _)).mono hb.size)⟩
          repeat (first | exact Drawn.refl _ | refine Drawn.drewN ?_ _)
      · obtain rfl : k = n := by omega
        have HF := Lib.hid (show a = b from take_eq_all HV.out HA.out HB.out)
        clear HV
        go_wp2
        go_ret
        exact ⟨by rw [decide_eq_true HF.out]; rfl, hb⟩
  · have HF := Lib.hid (show a ≠ b from fun e => hnn (by rw [← HA.out, ← HB.out, e]))
    go_wp2
    go_ret
    exact ⟨by rw [decide_eq_false HF.out]; rfl, Below.refl _ _⟩
end Go.Proofs.YtnknidfpkmnncaaGreat
/- CheckpolyCompare: the law. -/
namespace Go.Proofs.YtnknidfpkmnncaaGreat
open Go.RowKit

theorem cmpI_neg (a b : Int) : cmpI b a = -cmpI a b := by
  unfold cmpI
  rcases Int.lt_trichotomy a b with h | h | h
  · rw [if_neg (by omega), if_neg (by omega), if_pos h]
    rfl
  · subst h; simp
  · rw [if_pos h, if_neg (by omega), if_neg (by omega)]
theorem cmpI_one {a b : Int} : cmpI a b = 1 ↔ b < a := by
  unfold cmpI
  constructor
  · intro h
    split at h
    · omega
    · split at h
      · omega
      · omega
  · intro h
    rw [if_neg (by omega), if_neg (by omega)]
theorem cmpL_neg (a b : List Tm) : cmpL b a = -cmpL a b := by
  induction a generalizing b with
  | nil => cases b <;> rfl
  | cons p a ih =>
    cases b with
    | nil => rfl
    | cons q b =>
      unfold cmpL
      rw [cmpE_neg p.2 q.2, cmpI_neg p.1 q.1, ih b]
      by_cases h1 : cmpE p.2 q.2 = 0
      · by_cases h2 : cmpI p.1 q.1 = 0
        · simp [h1, h2]
        · simp [h1, h2]
      · simp [h1]
theorem cmpL_same0 (a : List Tm) : cmpL a a = 0 := by
  induction a with
  | nil => rfl
  | cons p a ih => rw [cmpL_same, ih]
theorem cmpL_zero {a b : List Tm} : cmpL a b = 0 ↔ a = b := by
  constructor
  · intro h
    induction a generalizing b with
    | nil => cases b with
      | nil => rfl
      | cons => simp [cmpL] at h
    | cons p a ih =>
      cases b with
      | nil => simp [cmpL] at h
      | cons q b =>
        unfold cmpL at h
        by_cases h1 : cmpE p.2 q.2 = 0
        · by_cases h2 : cmpI p.1 q.1 = 0
          · rw [if_neg (by simpa using h1), if_neg (by simpa using h2)] at h
            rw [ih h, Prod.ext (cmpI_zero.1 h2) (cmpE_zero.1 h1)]
          · rw [if_neg (by simpa using h1), if_pos h2] at h
            exact absurd h h2
        · rw [if_pos h1] at h
          exact absurd h h1
  · rintro rfl
    exact cmpL_same0 a
theorem cmpE_one_trans {e f g : Ex} (h1 : cmpE e f = 1) (h2 : cmpE f g = 1) : cmpE e g = 1 := by
  have h3 := cmpE_trans (show 0 ≤ cmpE e f by omega) (show 0 ≤ cmpE f g by omega)
  rcases cmpE_range e g with h | h | h
  · omega
  · have h4 := cmpE_zero.1 h
    subst h4
    rw [cmpE_neg f e] at h1
    omega
  · exact h
theorem cmpI_one_trans {a b c : Int} (h1 : cmpI a b = 1) (h2 : cmpI b c = 1) : cmpI a c = 1 := by
  rw [cmpI_one] at *
  omega
theorem cmpL_one {p q : Tm} {a b : List Tm} (h : cmpL (p :: a) (q :: b) = 1) : cmpE p.2 q.2 = 1 ∨ (p.2 = q.2 ∧ cmpI p.1 q.1 = 1) ∨ (p = q ∧ cmpL a b = 1) := by
  unfold cmpL at h
  by_cases h1 : cmpE p.2 q.2 = 0
  · by_cases h2 : cmpI p.1 q.1 = 0
    · rw [if_neg (by simpa using h1), if_neg (by simpa using h2)] at h
      exact .inr (.inr ⟨Prod.ext (cmpI_zero.1 h2) (cmpE_zero.1 h1), h⟩)
    · rw [if_neg (by simpa using h1), if_pos h2] at h
      exact .inr (.inl ⟨cmpE_zero.1 h1, h⟩)
  · rw [if_pos h1] at h
    exact .inl h
theorem cmpL_of_E {p q : Tm} {a b : List Tm} (h : cmpE p.2 q.2 = 1) : cmpL (p :: a) (q :: b) = 1 := by
  unfold cmpL
  rw [if_pos (by omega), h]
theorem cmpL_of_I {p q : Tm} {a b : List Tm} (h : p.2 = q.2) (h2 : cmpI p.1 q.1 = 1) : cmpL (p :: a) (q :: b) = 1 := by
  unfold cmpL
  rw [if_neg (by simpa using cmpE_zero.2 h), if_pos (by omega), h2]
theorem cmpL_one_trans {a b c : List Tm} (h1 : cmpL a b = 1) (h2 : cmpL b c = 1) : cmpL a c = 1 := by
  induction a generalizing b c with
  | nil => cases b <;> simp [cmpL] at h1
  | cons p a ih =>
    cases c with
    | nil => rfl
    | cons r c =>
      cases b with
      | nil => simp [cmpL] at h2
      | cons q b =>
        rcases cmpL_one h1 with e1 | ⟨e1, i1⟩ | ⟨rfl, t1⟩
        · rcases cmpL_one h2 with e2 | ⟨e2, i2⟩ | ⟨rfl, t2⟩
          · exact cmpL_of_E (cmpE_one_trans e1 e2)
          · exact cmpL_of_E (by rw [← e2]; exact e1)
          · exact cmpL_of_E e1
        · rcases cmpL_one h2 with e2 | ⟨e2, i2⟩ | ⟨rfl, t2⟩
          · exact cmpL_of_E (by rw [e1]; exact e2)
          · exact cmpL_of_I (e1.trans e2) (cmpI_one_trans i1 i2)
          · exact cmpL_of_I e1 i1
        · rcases cmpL_one h2 with e2 | ⟨e2, i2⟩ | ⟨rfl, t2⟩
          · exact cmpL_of_E e2
          · exact cmpL_of_I e2 i2
          · rw [cmpL_same]
            exact ih t1 t2
theorem cmpI_range (a b : Int) : cmpI a b = -1 ∨ cmpI a b = 0 ∨ cmpI a b = 1 := by
  unfold cmpI
  split
  · exact .inl rfl
  · split
    · exact .inr (.inl rfl)
    · exact .inr (.inr rfl)
theorem cmpL_range (a b : List Tm) : cmpL a b = -1 ∨ cmpL a b = 0 ∨ cmpL a b = 1 := by
  induction a generalizing b with
  | nil => cases b <;> simp [cmpL]
  | cons p a ih =>
    cases b with
    | nil => simp [cmpL]
    | cons q b =>
      unfold cmpL
      split
      · exact cmpE_range _ _
      · split
        · exact cmpI_range _ _
        · exact ih b
theorem cmpL_trans {a b c : List Tm} (h : cmpL a b = cmpL b c) : cmpL a c = cmpL a b := by
  rcases cmpL_range a b with h1 | h1 | h1
  · have h2 : cmpL c b = 1 := by rw [cmpL_neg b c, ← h, h1]; rfl
    have h3 : cmpL b a = 1 := by rw [cmpL_neg a b, h1]; rfl
    have h4 := cmpL_one_trans h2 h3
    rw [cmpL_neg c a, h4, h1]
  · have h2 := cmpL_zero.1 h1
    subst h2
    rw [h]
  · rw [h1, cmpL_one_trans h1 (h ▸ h1)]

end Go.Proofs.YtnknidfpkmnncaaGreat
/- Words shared by the laws' walks. -/
namespace Go.Proofs.YtnknidfpkmnncaaGreat
open Go.RowKit

theorem MonoR.below {B : Nat} {w w' : World} {A : Option Addr} {n c : Nat} {L : List Mono} (h : MonoR B w A n c L) {B' : Nat} (hb : Below B' w w') (hB : w.heap.size ≤ B') : MonoR B w' A n c L :=
  ⟨h.row.below (by omega) hb hB, h.lenL, h.rng⟩
theorem l1_mono {L : List Mono} (h : ∀ m ∈ L, -128 ≤ m.1 ∧ m.1 ≤ 127 ∧ ∀ j, 0 ≤ ex m.2 j ∧ ex m.2 j ≤ 255) : l1 L ≤ 128 * L.length := by
  induction L with
  | nil => simp [l1_nil]
  | cons p L ih =>
    have h1 := h p (by simp)
    have h2 := ih fun m hm => h m (List.mem_cons_of_mem _ hm)
    rw [l1_cons, List.length_cons]
    omega
theorem ValP.base {v : Value} {W w : World} {e : Ending} {w' : World} (h : ValP v w e w') (hb : Below W.heap.size W w) : ValP v W e w' := ⟨h.1, hb.trans (h.2.mono hb.size)⟩
end Go.Proofs.YtnknidfpkmnncaaGreat
/- The library's Grow and Concat over rows of terms; neg, Add, Sub. -/
namespace Go.Proofs.YtnknidfpkmnncaaGreat
open Go.RowKit

theorem grow_zero (w : World) : Calls Tryz.prog 72 #[.slice none 0 0, .int .i64 0] w fun e w' => e = .returned (.slice none 0 0) ∧ w = w' := by
  go_enter Tryz.func72, Tryz.ntmps72
  go_wp2
  go_ret
  exact ⟨rfl, rfl⟩
/-- A new row without elements, with room. -/
def RoomP (w : World) (e : Ending) (w' : World) : Prop := ∃ g cap, e = .returned (.slice (some ⟨g, 0, none⟩) 0 cap) ∧ w'.ownsRow w.heap.size 57 6 (.slice (some ⟨g, 0, none⟩) 0 cap) 0 [] ∧ Below w.heap.size w w'
set_option maxRecDepth 100000 in
set_option maxHeartbeats 1000000 in
theorem grow_nil (n : Nat) (w : World) (h0 : 0 < n) (hn : n ≤ 1073741824) : Calls Tryz.prog 72 #[.slice none 0 0, .int .i64 n] w (RoomP w) := by
  obtain ⟨i0, hi0, hz0, hz1, hz2⟩ := info_parts terminfo
  have hr := Lib.run_append_nil_zeros (P := Tryz.prog) w 27 3 27 57 i0 _ .i64 .i64 Tryz.underlying27 Tryz.underlying3 hi0 hz0 n h0 (by rw [hz1]; omega) (by omega) (by rw [hz2]; omega)
  have HR := Lib.hid hr
  clear hr
  have hge := grownCap_ge w n 0 57
  have hcm : grownCap w n 0 57 ≤ maxLen := grownCap_le_maxLen w n 0 57 (by unfold maxLen; omega)
  generalize grownCap w n 0 57 = cap at *
  have HCM := Lib.hid hcm
  unfold maxLen at hcm
  have h0' : (0 : Int) < (n : Int) := by omega
  go_enter Tryz.func72, Tryz.ntmps72
  go_wp2_with (at_builtin; refine Lib.wpList_append_run _ rfl _ _ _ _ rfl _ _ rfl rfl _ _ HR.out ?_)
  go_ret
  refine ⟨w.heap.size, cap, rfl, ⟨by simp, .inr ⟨w.heap.size, cap, _, rfl, Nat.le_refl _, heap_alloc_new w.drew _, Nat.zero_le _, HCM.out, ?_, by simp⟩⟩, ((Below.refl _ _).drew).alloc (Nat.le_refl _) _⟩
  rw [Array.size_append, size_zeroCells, size_zeroCells, ← Nat.add_mul]
  congr 1
  omega

/-- What comes back reads as the polynomial al; what existed is as it was. -/
def PolyWP (B : Nat) (al : List Tm) (w : World) (e : Ending) (w' : World) : Prop :=
  ∃ A' n' c', e = .returned (.slice A' n' c') ∧ PolyW B w' A' n' c' al ∧ Below w.heap.size w w'
/-- The state of Concat's second loop. -/
structure CC (B : Nat) (w : World) (pl : List Tm) (v : Value) (L : List TV) (wr : World) : Prop where
  own : wr.ownsRow w.heap.size 57 6 v L.length (flat L)
  reps : Reps (CoefW B w) L pl
  below : Below w.heap.size w wr
theorem CC.push {B : Nat} {w wr w' : World} {pl al : List Tm} {v v' : Value} {L M : List TV} {n : Nat} (h : CC B w pl v L wr) (hM : M.length = n) (hr : Reps (CoefW B w) M al) (hown : w'.ownsRow w.heap.size 57 6 v' (L.length + n) (flat L ++ flat M)) (hg : wr.grownBy w' v.ownBlock) : CC B w (pl ++ al) v' (L ++ M) w' :=
  ⟨by rw [List.length_append, hM, flat_append]; exact hown, h.reps.append hr, h.below.grown hg h.below.size (fun k hk => own_base h.own k hk)⟩

set_option maxRecDepth 100000 in
set_option maxHeartbeats 2000000 in
theorem concat_any (B H : Nat) (A A2 : Option Addr) (n c n2 c2 : Nat) (al bl : List Tm) (w : World) (hH : w.heap[H]? = some (.cells #[.slice A n c, .slice A2 n2 c2] 27 (0, 0))) (h : PolyW B w A n c al) (h2 : PolyW B w A2 n2 c2 bl) (hn : n + n2 ≤ 1073741824) :
    Calls Tryz.prog 50 #[.slice (some ⟨H, 0, none⟩) 2 2] w (PolyWP B (al ++ bl) w) := by
  obtain ⟨i0, hi0, hz0, hz1, hz2⟩ := info_parts terminfo
  have hc0 : w.cell? ⟨H, 0, none⟩ = some (.slice A n c) := by rw [cell_of_row w H 0 _ _ _ hH]; rfl
  have hc1 : w.cell? ⟨H, 1, none⟩ = some (.slice A2 n2 c2) := by rw [cell_of_row w H 1 _ _ _ hH]; rfl
  have hHl : H < w.heap.size := (Array.getElem?_eq_some_iff.1 hH).1
  obtain ⟨L, hP⟩ := h
  obtain ⟨L2, hP2⟩ := h2
  have hl1 := hP.lenL
  have hl2 := hP2.lenL
  have HL1 := Lib.hid hl1
  have HL2 := Lib.hid hl2
  clear hH hl1 hl2
  go_enter Tryz.func50, Tryz.ntmps50
  go_wp2_with fail
  go_loop [3, 11] (fun s i => (i = .int .i64 0 ∧ s = .int .i64 0) ∨ (i = .int .i64 1 ∧ s = .int .i64 n) ∨ (i = .int .i64 2 ∧ s = .int .i64 ((n : Int) + (n2 : Int)))) (fun _ i => 2 - (intOf i).toNat)
  case atStart => exact .inl ⟨rfl, rfl⟩
  case round =>
    rcases hrel with ⟨rfl, rfl⟩ | ⟨rfl, rfl⟩ | ⟨rfl, rfl⟩
    · go_wp2_with fail
      go_round
      case rel => exact .inr (.inl ⟨rfl, rfl⟩)
      case measure => simp [intOf]
    · go_wp2_with fail
      go_round
      case rel => exact .inr (.inr ⟨rfl, rfl⟩)
      case measure => simp [intOf]
    · have hG : Calls Tryz.prog 72 #[.slice none 0 0, .int .i64 ((n : Int) + (n2 : Int))] w fun e w1 => ∃ v, e = .returned v ∧ CC B w [] v [] w1 := by
        rcases Nat.eq_zero_or_pos (n + n2) with hz | hz
        · rw [show (n : Int) + (n2 : Int) = 0 by omega]
          refine (grow_zero w).mono ?_
          rintro e w1 ⟨rfl, rfl⟩
          exact ⟨_, rfl, World.ownsRow_nil _ _ _ _, trivial, Below.refl _ _⟩
        · rw [show (n : Int) + (n2 : Int) = ((n + n2 : Nat) : Int) by omega]
          refine (grow_nil (n + n2) w hz hn).mono ?_
          rintro e w1 ⟨g, cap, rfl, h1, h2⟩
          exact ⟨_, rfl, h1, trivial, h2⟩
      have HG := Lib.hid hG
      clear hG
      go_wp2_with fail
      refine HG.out.mono ?_
      rintro e w1 ⟨v, rfl, hC⟩
      have HC := Lib.hid hC
      clear hC HG
      go_wp2_with fail
      go_loopw [6, 27] (fun v i wr => (i = .int .i64 0 ∧ CC B w [] v [] wr) ∨ (i = .int .i64 1 ∧ CC B w al v L wr) ∨ (i = .int .i64 2 ∧ CC B w (al ++ bl) v (L ++ L2) wr)) (fun _ i _ => 2 - (intOf i).toNat)
      case atStart => exact .inl ⟨rfl, HC.out⟩
      case round =>
        rcases hrel with ⟨rfl, hK⟩ | ⟨rfl, hK⟩ | ⟨rfl, hK⟩
        · have hb := hK.below
          replace hc0 := (hb.cell (p := ⟨H, 0, none⟩) hHl).trans hc0
          have hrow := hP.row.below (by omega) hb (Nat.le_refl _)
          have hws := hb.size
          clear hb
          go_wp2_with (at_builtin; refine wpList_append_row _ rfl _ _ 27 rfl w.heap.size 57 i0 _ 6 64 Tryz.underlying27 hi0 hz0 hz1 hz2 rfl (by omega) _ 0 [] rfl hK.own B _ A n c (flat L) rfl hrow (flat_one _) (by simp only [maxLen]; omega) (by omega) hws ?_; intro v1 w1 hown hg _)
          have hK1 := hK.push (M := L) HL1.out hP.reps hown hg
          have HK1 := Lib.hid hK1
          clear hK hK1 hown hg hrow
          go_wp2
          go_roundw
          case rel => exact .inr (.inl ⟨rfl, by simpa using HK1.out⟩)
          case measure => simp [intOf]
        · have hb := hK.below
          replace hc1 := (hb.cell (p := ⟨H, 1, none⟩) hHl).trans hc1
          have hrow := hP2.row.below (by omega) hb (Nat.le_refl _)
          have hws := hb.size
          have hown0 := hK.own
          rw [HL1.out] at hown0
          clear hb
          go_wp2_with (at_builtin; refine wpList_append_row _ rfl _ _ 27 rfl w.heap.size 57 i0 _ 6 64 Tryz.underlying27 hi0 hz0 hz1 hz2 rfl (by omega) _ n (flat L) rfl hown0 B _ A2 n2 c2 (flat L2) rfl hrow (flat_one _) (by simp only [maxLen]; omega) (by omega) hws ?_; intro v1 w1 hown hg _)
          have hK1 := hK.push (M := L2) HL2.out hP2.reps (by rw [HL1.out]; exact hown) hg
          have HK1 := Lib.hid hK1
          clear hK hK1 hown hg hrow hown0
          go_wp2
          go_roundw
          case rel => exact .inr (.inr ⟨rfl, HK1.out⟩)
          case measure => simp [intOf]
        · obtain ⟨A5, c5, rfl⟩ := own_slice hK.own
          have HK := Lib.hid hK
          clear hK
          go_wp2
          go_ret
          exact ⟨_, _, _, rfl, ⟨_, Row.of_own HK.out.own, HK.out.reps.mono fun t z _ hr => hr.below HK.out.below (Nat.le_refl _)⟩, HK.out.below⟩
end Go.Proofs.YtnknidfpkmnncaaGreat
/- checkpoly.neg, Add, Sub. -/
namespace Go.Proofs.YtnknidfpkmnncaaGreat
open Go.RowKit

/-- The terms with their coefficients negated. -/
def negL (al : List Tm) : List Tm := al.map fun p => (-p.1, p.2)
theorem negL_step {al : List Tm} {k : Nat} {p : Tm} (h : al[k]? = some p) : negL (al.take (k + 1)) = negL (al.take k) ++ [(-p.1, p.2)] := by
  unfold negL
  rw [List.take_add_one, h]
  simp
theorem l1_negL (al : List Tm) : l1 (negL al) = l1 al := by
  induction al with
  | nil => rfl
  | cons p al ih =>
    show l1 ((-p.1, p.2) :: negL al) = _
    rw [l1_cons, l1_cons, ih]
    simp
theorem M1.box {B : Nat} {w : World} {pl : List Tm} {v : Value} {L : List TV} {wr : World} (h : M1 B w pl v L wr) (neg : Bool) (A : Option Addr) (n c : Nat) (e : Ex) :
    M1 B w pl v L (wr.alloc (.cells #[.bool neg, .slice A n c, .int .i64 e.1, .int .i64 e.2.1, .int .i64 e.2.2.1, .int .i64 e.2.2.2] 57)) := h.later ((Below.refl _ _).alloc (Nat.le_refl _) _)

set_option maxRecDepth 100000 in
set_option maxHeartbeats 4000000 in
theorem neg_any (B : Nat) (A : Option Addr) (n c : Nat) (al : List Tm) (w : World) (hB : B ≤ w.heap.size) (h : PolyW B w A n c al) (hnl : n ≤ 1073741824) :
    Calls Tryz.prog 78 #[.slice A n c] w (PolyP B (negL al) w) := by
  obtain ⟨i0, hi0, hz0, hz1, hz2⟩ := info_parts terminfo
  obtain ⟨L, hP⟩ := h
  have hcap := hP.row.cap
  have hbd := hP.row.bd
  go_enter Tryz.func78, Tryz.ntmps78
  go_wp2
  go_loopw [3, 8] (fun v i wr => ∃ (k : Nat) (L1 : List TV), k ≤ n ∧ i = .int .i64 k ∧ M1 B w (negL (al.take k)) v L1 wr) (fun _ i _ => n - (intOf i).toNat)
  case atStart => exact ⟨0, [], Nat.zero_le _, rfl, by simpa [negL] using M1.start B w⟩
  case round =>
    obtain ⟨W0, rfl⟩ : ∃ x, x = wr := ⟨_, rfl⟩
    obtain ⟨k, L1, hk, rfl, hN⟩ := hrel
    by_cases hlt : k < n
    · obtain ⟨b, off, rfl, hbl, hcells⟩ := hP.row.six (by omega)
      obtain ⟨t, ht⟩ : ∃ t, L[k]? = some t := ⟨_, List.getElem?_eq_getElem (by rw [hP.lenL]; exact hlt)⟩
      obtain ⟨p, hp, hte, hco⟩ := hP.reps.at_ ht
      obtain ⟨c0, c1, c2, c3, c4, c5⟩ := hcells k t ht
      have hbb := hN.below
      have hgw := hbb.size
      have hgl := fun g hg => own_lt hN.own g hg
      replace c0 := (hbb.cell (by exact hbl)).trans c0
      replace c1 := (hbb.cell (by exact hbl)).trans c1
      replace c2 := (hbb.cell (by exact hbl)).trans c2
      replace c3 := (hbb.cell (by exact hbl)).trans c3
      replace c4 := (hbb.cell (by exact hbl)).trans c4
      replace c5 := (hbb.cell (by exact hbl)).trans c5
      have hco1 := hco.below hbb (Nat.le_refl _)
      have HPk := Lib.hid hp
      have HTE := Lib.hid hte
      have i1 : (0 : Int) ≤ (k : Int) := by omega
      have i2 : (k : Int) < (n : Int) := by omega
      have hbox := (Terms.box W0 t)
      have hbxb : Below W0.heap.size W0 (W0.alloc (.cells #[.bool t.neg, .slice t.A t.n t.c, .int .i64 t.e.1, .int .i64 t.e.2.1, .int .i64 t.e.2.2.1, .int .i64 t.e.2.2.2] 57)) := (Below.refl _ _).alloc (Nat.le_refl _) _
      have hN1 := hN.later hbxb
      have hco2 := hco1.below hbxb (Nat.le_refl _)
      have hbx1 := hbox.six (i := 0) (t := t) rfl
      clear hcells ht hp hte hco hbb hco1
      obtain ⟨w1, hw1⟩ : ∃ w1, w1 = (W0.alloc (.cells #[.bool t.neg, .slice t.A t.n t.c, .int .i64 t.e.1, .int .i64 t.e.2.1, .int .i64 t.e.2.2.1, .int .i64 t.e.2.2.2] 57)) := ⟨_, rfl⟩
      have hs1 : W0.heap.size < w1.heap.size := by rw [hw1]; simp
      go_upto_region 5 with (fail)
      rw [← hw1] at hN1 hco2 hbx1 ⊢
      have hx0 : Held6 w1 W0.heap.size t := by simpa only [Nat.zero_mul, Nat.zero_add] using hbx1
      have hx1 : Held6 w1.drew W0.heap.size t := hx0
      have hN2 := hN1.later ((Below.refl _ _).drew)
      obtain ⟨⟨xs, hdx, hzx⟩, htn⟩ := hco2
      have hdx2 := hdx.drew
      obtain ⟨z, hz⟩ : ∃ z, z = -p.1 := ⟨_, rfl⟩
      have HZ := Lib.hid (show -(iv t.neg (val xs)) = z by rw [hz, hzx])
      have HZP := Lib.hid hz
      clear hz
      have hown0 : ∀ g, u3.ownBlock = some g → g < W0.heap.size := hgl
      have hBw : B ≤ w1.drew.heap.size := by show B ≤ w1.heap.size; have := hN1.below.size; omega
      have hL1 : L1.length ≤ k := by have h1 := hN1.reps.length; unfold negL at h1; rw [List.length_map, List.length_take] at h1; omega
      have hws : w.heap.size ≤ w1.heap.size := hN1.below.size
      have HW1 := Lib.hid hw1
      clear hzx hdx hN1 hbxb hbox hN c0 c1 c2 c3 c4 c5 hbx1 hw1
      go_region_held3 (fun w' => Held6 w' W0.heap.size t) (first | exact hx1 | exact hx2 | exact hx2a | exact hx3 | go_keep)
        (first
          | (go_at_call 54; ((with_reducible refine (ineg_any B t.neg t.A t.n t.c xs _ hBw hdx2 htn).mono ?_); rw [HZ.out]; rintro e2 w2 ⟨A2, n2, c2, rfl, h2, hbw2⟩; have hN3 := hN2.later hbw2; have hx2 := held6_below hx1 hbw2 hs1; have hs2 : W0.heap.size < w2.heap.size := Nat.lt_of_lt_of_le hs1 hbw2.size; have hx2a := held6_box hx2 hs2 (decide (z < 0)) A2 n2 c2 t.e; have hN4 := hN3.box (decide (z < 0)) A2 n2 c2 t.e))
          | (refine step_append_lies _ (by rfl) _ _ _ (by rfl) w.heap.size 57 i0 _ 6 64 Tryz.underlying27 hi0 hz0 hz1 hz2 rfl (by omega) u3 L1.length (flat L1) (by rfl) hN4.own ⟨w2.heap.size, 0, none⟩ 1 1 (flat [⟨decide (z < 0), A2, n2, c2, t.e⟩]) (by rfl) (by rfl) (World.news_of_block (cs := #[.bool (decide (z < 0)), .slice A2 n2 c2, .int .i64 t.e.1, .int .i64 t.e.2.1, .int .i64 t.e.2.2.1, .int .i64 t.e.2.2.2]) (t := 57) (fr := (0, 0)) (heap_alloc_new w2 _)) (flat_one _) (by omega) (by simp only [maxLen]; omega) (by omega) (by simp; omega) (w2.heap.size + 1) (by simp) ?_; intro gg cap w3 hown3 hgrow hat hlt3; have hx3 := held6_grown hx2a hgrow hown0 (by simp; omega)))
      have hN5 := hN4.push (p := (z, p.2)) (t := ⟨decide (z < 0), A2, n2, c2, t.e⟩) HTE.out hown3 hgrow ⟨rfl, h2.below (((Below.refl _ _).alloc (Nat.le_refl _) _)) (Nat.le_refl _)⟩ hB
      clear hx0 hx1 hx2 hx2a hx3 hN2 hN3 hN4 hown3 hgrow h2 hdx2 hbw2 hat
      go_wp2
      go_roundw
      case rel => exact ⟨k + 1, _, by omega, by go_num, by rw [negL_step HPk.out, ← HZP.out]; exact hN5⟩
      case measure => simp [intOf]; omega
    · obtain rfl : k = n := by omega
      have hN9 := hN
      rw [List.take_of_length_le (by rw [hP.len]; exact Nat.le_refl _)] at hN9
      obtain ⟨A5, c5, rfl⟩ := own_slice hN9.own
      have hP5 : PolyC B W0 A5 L1.length c5 (negL al) := ⟨L1, Row.of_own hN9.own, hN9.reps⟩
      have hbb := hN9.below
      clear hN9 hN
      go_wp2
      go_ret
      exact ⟨_, _, _, rfl, hP5, hbb⟩

theorem PolyF.base {B : Nat} {al : List Tm} {W w : World} {e : Ending} {w' : World} (h : PolyF B al w e w') (hb : Below W.heap.size W w) : PolyF B al W e w' := by
  obtain ⟨A, n, c, he, hp, hb2, hf⟩ := h
  exact ⟨A, n, c, he, hp, hb.trans (hb2.mono hb.size), fun ad ha => Nat.le_trans hb.size (hf ad ha)⟩
theorem PolyF.polyP {B : Nat} {al : List Tm} {w : World} {e : Ending} {w' : World} (h : PolyF B al w e w') : PolyP B al w e w' := by
  obtain ⟨A, n, c, he, hp, hb2, hf⟩ := h
  exact ⟨A, n, c, he, hp, hb2⟩

set_option maxRecDepth 100000 in
set_option maxHeartbeats 1000000 in
theorem addp_new (B : Nat) (A A2 : Option Addr) (n c n2 c2 : Nat) (al bl : List Tm) (w : World) (hB : B ≤ w.heap.size) (h : PolyW B w A n c al) (h2 : PolyW B w A2 n2 c2 bl) (hn : n + n2 < sortLim) (hl : l1 al + l1 bl < big) :
    Calls Tryz.prog 17 #[.slice A n c, .slice A2 n2 c2] w (PolyF B (nf (al ++ bl)) w) := by
  have hbx : Below w.heap.size w (w.alloc (.cells #[.slice A n c, .slice A2 n2 c2] 27)) := (Below.refl _ _).alloc (Nat.le_refl _) _
  have hC := Lib.hid (concat_any B w.heap.size A A2 n c n2 c2 al bl (w.alloc (.cells #[.slice A n c, .slice A2 n2 c2] 27)) (heap_alloc_new w _) (h.below hbx (Nat.le_refl _)) (h2.below hbx (Nat.le_refl _)) (by unfold sortLim at hn; omega))
  have HL := Lib.hid (show l1 (al ++ bl) < big by rw [l1_append]; exact hl)
  have HN := Lib.hid (show (al ++ bl).length = n + n2 by rw [List.length_append, h.len, h2.len])
  clear hl h h2
  go_enter Tryz.func17, Tryz.ntmps17
  go_wp2_with fail
  refine hC.out.mono ?_
  rintro e w1 ⟨A1, n1, c1, rfl, h1, hb1⟩
  have hb2 := hbx.trans (hb1.mono hbx.size)
  have hn1 : n1 < sortLim := by have := h1.len; have := HN.out; omega
  clear hC hb1 hbx
  go_wp2_with fail
  refine (normalp_new B A1 n1 c1 (al ++ bl) w1 (Nat.le_trans hB hb2.size) h1 hn1 HL.out).mono ?_
  rintro e w2 ⟨A3, n3, c3, rfl, h3, hb3, hf⟩
  go_wp2
  go_ret
  exact ⟨A3, n3, c3, rfl, h3, hb2.trans (hb3.mono hb2.size), fun ad ha => Nat.le_trans hb2.size (hf ad ha)⟩

set_option maxRecDepth 100000 in
set_option maxHeartbeats 1000000 in
theorem subp_new (B : Nat) (A A2 : Option Addr) (n c n2 c2 : Nat) (al bl : List Tm) (w : World) (hB : B ≤ w.heap.size) (h : PolyW B w A n c al) (h2 : PolyW B w A2 n2 c2 bl) (hn : n + n2 < sortLim) (hl : l1 al + l1 bl < big) :
    Calls Tryz.prog 75 #[.slice A n c, .slice A2 n2 c2] w (PolyF B (nf (al ++ negL bl)) w) := by
  have HL := Lib.hid (show l1 (al ++ negL bl) < big by rw [l1_append, l1_negL]; exact hl)
  have HN := Lib.hid (show (al ++ negL bl).length = n + n2 by rw [List.length_append, h.len]; unfold negL; rw [List.length_map, h2.len])
  have HL2 := Lib.hid (show l1 (negL bl) < big by rw [l1_negL]; omega)
  have HLn := Lib.hid (show (negL bl).length = n2 by unfold negL; rw [List.length_map, h2.len])
  clear hl
  go_enter Tryz.func75, Tryz.ntmps75
  go_wp2_with fail
  refine (neg_any B A2 n2 c2 bl w hB h2 (by unfold sortLim at hn; omega)).mono ?_
  rintro e w0 ⟨A4, n4, c4, rfl, h4, hb0⟩
  have hn4 : n4 = n2 := by have := h4.len; have := HLn.out; omega
  have hbx : Below w0.heap.size w0 (w0.alloc (.cells #[.slice A n c, .slice A4 n4 c4] 27)) := (Below.refl _ _).alloc (Nat.le_refl _) _
  have hC := Lib.hid (concat_any B w0.heap.size A A4 n c n4 c4 al (negL bl) (w0.alloc (.cells #[.slice A n c, .slice A4 n4 c4] 27)) (heap_alloc_new w0 _) ((h.below hb0 (Nat.le_refl _)).below hbx (Nat.le_refl _)) ((h4.wide HL2.out).below hbx (Nat.le_refl _)) (by unfold sortLim at hn; omega))
  have HN4 := Lib.hid hn4
  clear h h2 h4 hn4
  go_wp2_with fail
  refine hC.out.mono ?_
  rintro e w1 ⟨A1, n1, c1, rfl, h1, hb1⟩
  have hb2 := (hb0.trans (hbx.mono hb0.size)).trans (hb1.mono (Nat.le_trans hb0.size hbx.size))
  have hn1 : n1 < sortLim := by have := h1.len; have := HN.out; omega
  clear hC hb1 hbx
  go_wp2_with fail
  refine (normalp_new B A1 n1 c1 (al ++ negL bl) w1 (Nat.le_trans hB hb2.size) h1 hn1 HL.out).mono ?_
  rintro e w2 ⟨A3, n3, c3, rfl, h3, hb3, hf⟩
  go_wp2
  go_ret
  exact ⟨A3, n3, c3, rfl, h3, hb2.trans (hb3.mono hb2.size), fun ad ha => Nat.le_trans hb2.size (hf ad ha)⟩

set_option maxRecDepth 100000 in
set_option maxHeartbeats 1000000 in
theorem same_any (B : Nat) (A A2 : Option Addr) (n c n2 c2 : Nat) (al bl : List Tm) (w : World) (hB : B ≤ w.heap.size) (h : PolyW B w A n c al) (h2 : PolyW B w A2 n2 c2 bl) (hn : n < sortLim) (hn2 : n2 < sortLim) (hl : l1 al < big) (hl2 : l1 bl < big) :
    Calls Tryz.prog 42 #[.slice A n c, .slice A2 n2 c2] w (ValP (.bool (decide (nf al = nf bl))) w) := by
  have hC := Lib.hid (compare_any B A A2 n c n2 c2 al bl w hB h h2 hn hn2 hl hl2)
  have HD := Lib.hid (show (cmpL (nf al) (nf bl) == 0) = decide (nf al = nf bl) by rw [Bool.eq_iff_iff, beq_iff_eq, decide_eq_true_eq]; exact cmpL_zero)
  clear h h2 hl hl2
  go_enter Tryz.func42, Tryz.ntmps42
  go_wp2_with fail
  refine hC.out.mono ?_
  rintro e w1 ⟨rfl, hb1⟩
  go_wp2
  go_ret
  exact ⟨by rw [← HD.out]; rfl, hb1⟩
end Go.Proofs.YtnknidfpkmnncaaGreat
/- checkpoly.Coef, Level, constant; the library's Clone. -/
namespace Go.Proofs.YtnknidfpkmnncaaGreat
open Go.RowKit

/-- The exponents with a 0 at j. -/
def zeroE (j : Nat) (e : Ex) : Ex := match j with
  | 0 => (0, e.2.1, e.2.2.1, e.2.2.2)
  | 1 => (e.1, 0, e.2.2.1, e.2.2.2)
  | 2 => (e.1, e.2.1, 0, e.2.2.2)
  | _ => (e.1, e.2.1, e.2.2.1, 0)
/-- The coefficient of the power k of the variable j. -/
def coefL (j : Nat) (k : Int) (al : List Tm) : List Tm := (al.filter fun p => ex p.2 j == k).map fun p => (p.1, zeroE j p.2)
theorem coefL_step {j : Nat} {k : Int} {al : List Tm} {i : Nat} {p : Tm} (h : al[i]? = some p) : coefL j k (al.take (i + 1)) = if ex p.2 j = k then coefL j k (al.take i) ++ [(p.1, zeroE j p.2)] else coefL j k (al.take i) := by
  unfold coefL
  rw [List.take_add_one, h, List.filter_append]
  by_cases he : ex p.2 j = k
  · simp [he]
  · simp [he]
theorem coefL_len (j : Nat) (k : Int) (al : List Tm) : (coefL j k al).length ≤ al.length := by
  unfold coefL
  rw [List.length_map]
  exact List.length_filter_le _ _

theorem TBox.setJ {w : World} {g : Nat} {b : Bool} {A : Option Addr} {n c : Nat} {e : Ex} (h : TBox w g b A n c e) (j : Nat) (hj : j < 4) : TBox (w.setCell ⟨g, 2 + j, none⟩ (.int .i64 0)) g b A n c (zeroE j e) := by
  match j, hj with
  | 0, _ => exact h.set0 0
  | 1, _ => exact h.set1 0
  | 2, _ => exact h.set2 0
  | 3, _ => exact h.set3 0
theorem TBox.exCell {w : World} {g : Nat} {b : Bool} {A : Option Addr} {n c : Nat} {e : Ex} (h : TBox w g b A n c e) (j : Nat) (hj : j < 4) : w.cell? ⟨g, 2 + j, none⟩ = some (.int .i64 (ex e j)) := by
  obtain ⟨c0, c1, c2, c3, c4, c5⟩ := h.six
  match j, hj with
  | 0, _ => exact c2
  | 1, _ => exact c3
  | 2, _ => exact c4
  | 3, _ => exact c5

theorem M1.setFar {B : Nat} {w : World} {pl : List Tm} {v : Value} {L : List TV} {wr : World} {g : Nat} (h : M1 B w pl v L wr) (hg : w.heap.size ≤ g) (hne : v.ownBlock ≠ some g) (hB : B ≤ g) (ht : Ty wr g 57) (i : Nat) (u : Value) : M1 B w pl v L (wr.setCell ⟨g, i, none⟩ u) :=
  ⟨h.own.kept (row := some g) ⟨rfl, rfl, rfl, by simp [World.setCell], fun k _ hk => Below.heap_setCell wr _ _ k (fun e => hk (by rw [e]))⟩ (.inr hne), h.reps.mono fun t z _ hr => ⟨hr.1, hr.2.setCell (p := ⟨g, i, none⟩) hB ht (by decide) u⟩, h.below.setCell hg u⟩

set_option maxRecDepth 100000 in
set_option maxHeartbeats 4000000 in
theorem coef_any (B j : Nat) (A : Option Addr) (n c : Nat) (al : List Tm) (d : Int) (w : World) (hB : B ≤ w.heap.size) (h : PolyW B w A n c al) (hn : n < sortLim) (hl : l1 al < big) (hj : j < 4) :
    Calls Tryz.prog 10 #[.slice A n c, .int .i64 ((j : Int) + 1), .int .i64 d] w (PolyP B (coefL j d (nf al)) w) := by
  have hnm : n ≤ 1073741824 := by unfold sortLim at hn; omega
  obtain ⟨i0, hi0, hz0, hz1, hz2⟩ := info_parts terminfo
  have HN := Lib.hid (normalp_any B A n c al w hB h hn hl)
  have HL := Lib.hid (show (nf al).length ≤ n by have h4 := length_nf al; have h5 := h.len; omega)
  generalize nf al = a at *
  clear h hl
  have hj0 : (0 : Int) ≤ (j : Int) := by omega
  have hj1 : (j : Int) < 4 := by omega
  go_enter Tryz.func10, Tryz.ntmps10
  go_wp2_with fail
  refine HN.out.mono ?_
  rintro e w1 ⟨A', n', c', rfl, h1, hb1⟩
  have hl1 : n' ≤ n := by have h3 := h1.len; have := HL.out; omega
  have hc1 := h1.cap
  have hws := hb1.size
  go_wp2_with fail
  go_loopw [7, 19] (fun v i wr => ∃ (k : Nat) (L1 : List TV), k ≤ n' ∧ i = .int .i64 k ∧ M1 B w1 (coefL j d (a.take k)) v L1 wr) (fun _ i _ => n' - (intOf i).toNat)
  case atStart => exact ⟨0, [], Nat.zero_le _, rfl, by simpa [coefL] using M1.start B w1⟩
  case round =>
    obtain ⟨W0, rfl⟩ : ∃ y, y = wr := ⟨_, rfl⟩
    obtain ⟨k, L1, hk, rfl, hM⟩ := hrel
    by_cases hkn : k < n'
    · obtain ⟨b, off, rfl, hs1, HT⟩ := h1.term (by omega)
      obtain ⟨t, p, hp, hte, hcf, hh2, hh4⟩ := HT k hkn
      have hb := hM.below
      obtain ⟨c0, c1⟩ := held2_below hh2 hb hs1
      obtain ⟨d0, d1, d2, d3⟩ := held4_below hh4 hb hs1
      have hcf2 := hcf.below hb (Nat.le_refl _)
      have HP := Lib.hid hp
      have i0' : (0 : Int) ≤ (k : Int) := by omega
      have i1 : (k : Int) < (n' : Int) := by omega
      have hL1 : L1.length ≤ 1073741824 := by
        have h3 := hM.reps.length
        have h5 : (coefL j d (a.take k)).length ≤ k := Nat.le_trans (coefL_len j d (a.take k)) (List.length_take_le _ _)
        omega
      have HTE := Lib.hid hte
      clear HT hp hte hcf hh2 hh4
      have hgW : w1.heap.size ≤ W0.heap.size := hb.size
      have hal : Below W0.heap.size W0 (W0.alloc (.cells #[.bool t.neg, .slice t.A t.n t.c, .int .i64 t.e.1, .int .i64 t.e.2.1, .int .i64 t.e.2.2.1, .int .i64 t.e.2.2.2] 57)) := (Below.refl _ _).alloc (Nat.le_refl _) _
      have hTB : TBox (W0.alloc (.cells #[.bool t.neg, .slice t.A t.n t.c, .int .i64 t.e.1, .int .i64 t.e.2.1, .int .i64 t.e.2.2.1, .int .i64 t.e.2.2.2] 57)) W0.heap.size t.neg t.A t.n t.c t.e := heap_alloc_new W0 _
      have hM2 := hM.later hal
      have hcf3 := hcf2.below hal (Nat.le_refl _)
      obtain ⟨W2, hW2⟩ : ∃ y, y = (W0.alloc (.cells #[.bool t.neg, .slice t.A t.n t.c, .int .i64 t.e.1, .int .i64 t.e.2.1, .int .i64 t.e.2.2.1, .int .i64 t.e.2.2.2] 57)) := ⟨_, rfl⟩
      obtain ⟨g, hg⟩ : ∃ g, g = W0.heap.size := ⟨_, rfl⟩
      have hgW2 : g < W2.heap.size := by rw [hW2, hg]; simp
      rw [← hW2, ← hg] at hTB
      rw [← hW2] at hM2 hcf3 hal
      have HGW := Lib.hid (show w1.heap.size ≤ g by omega)
      have HOW := Lib.hid (show u7.ownBlock ≠ some g from fun e => by have := own_lt hM.own g e; omega)
      go_upto_region 7 with (fail)
      rw [← hW2, ← hg]
      clear hW2 hg hM hcf2 c0 c1 d0 d1 d2 d3 hb
      have hxj := hTB.exCell j hj
      have hwrap : IntKind.i64.wrap (j : Int) = (j : Int) := IntWalk.i64_in _ (by omega)
      by_cases he : ex t.e j = d
      · have hTS := hTB.setJ j hj
        obtain ⟨r0, r1, r2, r3, r4, r5⟩ := hTS.six
        have hfz := hTB.frozen
        have hst : M1 B w1 (coefL j d (a.take k)) u7 L1 (W2.setCell ⟨g, 2 + j, none⟩ (.int .i64 0)) := hM2.setFar HGW.out HOW.out (by have := HGW.out; omega) hTB.ty _ _
        have hcs : CoefC B (W2.setCell ⟨g, 2 + j, none⟩ (.int .i64 0)) t p.1 := ⟨hcf3.1, hcf3.2.setCell (p := ⟨g, 2 + j, none⟩) (by have := HGW.out; show B ≤ g; omega) hTB.ty (by decide) _⟩
        have HE := Lib.hid (show coefL j d (a.take (k + 1)) = coefL j d (a.take k) ++ [(p.1, zeroE j p.2)] by rw [coefL_step HP.out, if_pos (by rw [← HTE.out]; exact he)])
        have hed : (ex t.e j == d) = true := by rw [beq_iff_eq]; exact he
        generalize ex t.e j = x at *
        have HEE := Lib.hid he
        clear he hM2 hTS hTB
        obtain ⟨W3, hW3⟩ : ∃ y, y = W2.setCell ⟨g, 2 + j, none⟩ (.int .i64 0) := ⟨_, rfl⟩
        have hs3 : W2.heap.size ≤ W3.heap.size := by rw [hW3]; simp [World.setCell]
        have hw13 : w1.heap.size ≤ W3.heap.size := by have := HGW.out; omega
        go_upto_region 9 with (fail)
        rw [← hW3] at hst hcs r0 r1 r2 r3 r4 r5 ⊢
        clear hW3 hxj hfz
        have hal3 : Below W3.heap.size W3 (W3.alloc (.cells #[.bool t.neg, .slice t.A t.n t.c, .int .i64 (zeroE j t.e).1, .int .i64 (zeroE j t.e).2.1, .int .i64 (zeroE j t.e).2.2.1, .int .i64 (zeroE j t.e).2.2.2] 57)) := (Below.refl _ _).alloc (Nat.le_refl _) _
        have hM5 := hst.later hal3
        have hd5 := hcs.below hal3 (Nat.le_refl _)
        go_wp2_with (at_builtin; refine wpList_append_lies _ rfl _ _ _ rfl w1.heap.size 57 i0 _ 6 64 Tryz.underlying27 hi0 hz0 hz1 hz2 rfl (by omega) u7 L1.length (flat L1) rfl hM5.own ⟨W3.heap.size, 0, none⟩ 1 1 (flat [⟨t.neg, t.A, t.n, t.c, zeroE j t.e⟩]) rfl rfl (World.news_of_block (cs := #[.bool t.neg, .slice t.A t.n t.c, .int .i64 (zeroE j t.e).1, .int .i64 (zeroE j t.e).2.1, .int .i64 (zeroE j t.e).2.2.1, .int .i64 (zeroE j t.e).2.2.2]) (t := 57) (fr := (0, 0)) (heap_alloc_new W3 _)) (flat_one _) (by omega) (by simp only [maxLen]; omega) (by omega) (by simp; omega) (W3.heap.size + 1) (by simp) ?_; intro gg cap w3 hown3 hgrow hat hlt3)
        have hM6 := hM5.push (p := (p.1, zeroE j p.2)) (t := ⟨t.neg, t.A, t.n, t.c, zeroE j t.e⟩) (by show zeroE j t.e = zeroE j p.2; rw [HTE.out]) hown3 hgrow hd5 (by omega)
        clear hM5 hd5 hown3 hgrow hat hst hcs
        go_wp2
        go_roundw
        case rel => exact ⟨k + 1, _, by omega, by go_num, by rw [HE.out]; exact hM6⟩
        case measure => simp [intOf]; omega
      · have HE := Lib.hid (show coefL j d (a.take (k + 1)) = coefL j d (a.take k) by rw [coefL_step HP.out, if_neg (by rw [← HTE.out]; exact he)])
        have hed : (ex t.e j == d) = false := by rw [beq_eq_false_iff_ne]; exact he
        generalize ex t.e j = x at *
        clear he
        go_wp2_with fail
        go_roundw
        case rel => exact ⟨k + 1, L1, by omega, by go_num, by rw [HE.out]; exact hM2⟩
        case measure => simp [intOf]; omega
    · obtain rfl : k = n' := by omega
      have hM9 := hM
      rw [List.take_of_length_le (by rw [h1.len]; exact Nat.le_refl _)] at hM9
      obtain ⟨A5, c5, rfl⟩ := own_slice hM9.own
      have hP5 := Lib.hid (show PolyC B W0 A5 L1.length c5 _ from ⟨L1, Row.of_own hM9.own, hM9.reps⟩)
      have hbb := Lib.hid hM9.below
      clear hM9 hM
      go_wp2
      go_ret
      exact ⟨_, _, _, rfl, hP5.out, hb1.trans (hbb.out.mono hws)⟩
end Go.Proofs.YtnknidfpkmnncaaGreat
/- checkpoly.Level, constant; Reducta's closure; the library's Clone. -/
namespace Go.Proofs.YtnknidfpkmnncaaGreat
open Go.RowKit

/-- The highest level at which e is positive, at least m. -/
def levE (e : Ex) (m : Nat) : Nat → Nat
  | 0 => m
  | k + 1 => if 0 < ex e k then max (levE e m k) (k + 1) else levE e m k
def levL (al : List Tm) : Nat := al.foldl (fun m p => levE p.2 m 4) 0
theorem levL_step {al : List Tm} {k : Nat} {p : Tm} (h : al[k]? = some p) : levL (al.take (k + 1)) = levE p.2 (levL (al.take k)) 4 := by
  unfold levL
  rw [List.take_add_one, h, List.foldl_append]
  rfl
theorem levE_le {e : Ex} {m : Nat} (hm : m ≤ 4) : ∀ k, k ≤ 4 → levE e m k ≤ 4 := by
  intro k
  induction k with
  | zero => intro _; exact hm
  | succ k ih =>
    intro hk
    have := ih (by omega)
    unfold levE
    split <;> omega
theorem levL_le (al : List Tm) : levL al ≤ 4 := by
  have : ∀ (al : List Tm) (m : Nat), m ≤ 4 → al.foldl (fun m p => levE p.2 m 4) m ≤ 4 := by
    intro al
    induction al with
    | nil => intro m hm; exact hm
    | cons p al ih => intro m hm; exact ih _ (levE_le hm 4 (by omega))
  exact this al 0 (by omega)

set_option maxRecDepth 100000 in
set_option maxHeartbeats 2000000 in
theorem level_any (B : Nat) (A : Option Addr) (n c : Nat) (al : List Tm) (w : World) (hB : B ≤ w.heap.size) (h : PolyW B w A n c al) (hn : n < sortLim) (hl : l1 al < big) :
    Calls Tryz.prog 20 #[.slice A n c] w (ValP (.int .i64 (levL (nf al) : Nat)) w) := by
  have hnm : n ≤ 1073741824 := by unfold sortLim at hn; omega
  have HN := Lib.hid (normalp_any B A n c al w hB h hn hl)
  have HL := Lib.hid (show (nf al).length ≤ n by have h4 := length_nf al; have h5 := h.len; omega)
  generalize nf al = a at *
  clear h hl
  go_enter Tryz.func20, Tryz.ntmps20
  go_wp2_with fail
  refine HN.out.mono ?_
  rintro e w1 ⟨A', n', c', rfl, h1, hb1⟩
  have hl1 : n' ≤ n := by have h3 := h1.len; have := HL.out; omega
  have hc1 := h1.cap
  have hws := hb1.size
  go_wp2_with fail
  go_loopw [3, 11] (fun v i wr => ∃ (k m : Nat), k ≤ n' ∧ i = .int .i64 k ∧ v = .int .i64 m ∧ m ≤ 4 ∧ Below w1.heap.size w1 wr ∧ Hid (levL (a.take k) = m)) (fun _ i _ => n' - (intOf i).toNat)
  case atStart => exact ⟨0, 0, Nat.zero_le _, rfl, rfl, by omega, Below.refl _ _, Lib.hid rfl⟩
  case round =>
    obtain ⟨W0, rfl⟩ : ∃ y, y = wr := ⟨_, rfl⟩
    obtain ⟨k, m, hk, rfl, rfl, hm4, hb, HV⟩ := hrel
    by_cases hkn : k < n'
    · obtain ⟨b, off, rfl, hs1, HT⟩ := h1.term (by omega)
      obtain ⟨t, p, hp, hte, hcf, hh2, hh4⟩ := HT k hkn
      obtain ⟨c0, c1⟩ := held2_below hh2 hb hs1
      obtain ⟨d0, d1, d2, d3⟩ := held4_below hh4 hb hs1
      have HP := Lib.hid hp
      have HTE := Lib.hid hte
      have i0' : (0 : Int) ≤ (k : Int) := by omega
      have i1 : (k : Int) < (n' : Int) := by omega
      clear HT hp hte hcf hh2 hh4
      have hbx := hb.alloc hb.size (.cells #[.bool t.neg, .slice t.A t.n t.c, .int .i64 t.e.1, .int .i64 t.e.2.1, .int .i64 t.e.2.2.1, .int .i64 t.e.2.2.2] 57)
      go_wp2_with fail
      go_loop [3, 17] (fun v i => ∃ (j q : Nat), j ≤ 4 ∧ i = .int .i64 j ∧ v = .int .i64 q ∧ q ≤ 4 ∧ Hid (levE t.e m j = q)) (fun _ i => 4 - (intOf i).toNat)
      case atStart => exact ⟨0, m, by omega, rfl, rfl, hm4, Lib.hid rfl⟩
      case round =>
        obtain ⟨j, q, hj, rfl, rfl, hq4, HQ⟩ := hrel
        by_cases hj4 : j < 4
        · have hix := ind_any t.e.1 t.e.2.1 t.e.2.2.1 t.e.2.2.2 j hj4
          have j0 : (0 : Int) ≤ (j : Int) := by omega
          have j1 : (j : Int) < 4 := by omega
          by_cases hx : 0 < ex t.e j
          · have HS := Lib.hid (show levE t.e m (j + 1) = max q (j + 1) by rw [levE, if_pos hx, HQ.out])
            have hx' : 0 < ex (t.e.1, t.e.2.1, t.e.2.2.1, t.e.2.2.2) j := hx
            clear hx
            generalize ex (t.e.1, t.e.2.1, t.e.2.2.1, t.e.2.2.2) j = x at hix hx'
            by_cases hqj : q ≤ j
            · go_wp2_with fail
              go_round
              case rel => exact ⟨j + 1, j + 1, by omega, by go_num, by first | rfl | (congr 1; split <;> omega) | go_num, by omega, Lib.hid (by rw [HS.out]; omega)⟩
              case measure => simp [intOf]; omega
            · go_wp2_with fail
              go_round
              case rel => exact ⟨j + 1, q, by omega, by go_num, by first | rfl | (congr 1; split <;> omega) | go_num, by omega, Lib.hid (by rw [HS.out]; omega)⟩
              case measure => simp [intOf]; omega
          · have HS := Lib.hid (show levE t.e m (j + 1) = q by rw [levE, if_neg hx, HQ.out])
            have hx' : ¬ 0 < ex (t.e.1, t.e.2.1, t.e.2.2.1, t.e.2.2.2) j := hx
            clear hx
            generalize ex (t.e.1, t.e.2.1, t.e.2.2.1, t.e.2.2.2) j = x at hix hx'
            go_wp2_with fail
            go_round
            case rel => exact ⟨j + 1, q, by omega, by go_num, rfl, hq4, HS⟩
            case measure => simp [intOf]; omega
        · obtain rfl : j = 4 := by omega
          have HF := Lib.hid (show levL (a.take (k + 1)) = q by rw [levL_step HP.out, HV.out, ← HTE.out]; exact HQ.out)
          go_wp2_with fail
          go_roundw
          case rel => exact ⟨k + 1, q, by omega, by go_num, rfl, hq4, hbx, HF⟩
          case measure => simp [intOf]; omega
    · obtain rfl : k = n' := by omega
      have HF := Lib.hid (show levL a = m by have h2 := HV.out; rwa [List.take_of_length_le (by rw [h1.len]; exact Nat.le_refl _)] at h2)
      go_wp2
      go_ret
      exact ⟨by rw [HF.out]; rfl, hb1.trans (hb.mono hws)⟩
theorem constant_any (B : Nat) (A : Option Addr) (n c : Nat) (al : List Tm) (w : World) (hB : B ≤ w.heap.size) (h : PolyW B w A n c al) (hn : n < sortLim) (hl : l1 al < big) :
    Calls Tryz.prog 37 #[.slice A n c] w (ValP (.bool (decide (levL (nf al) = 0))) w) := by
  have HN := Lib.hid (level_any B A n c al w hB h hn hl)
  generalize levL (nf al) = m at *
  have HD := Lib.hid (show ((m : Int) == 0) = decide (m = 0) by rw [Bool.eq_iff_iff, beq_iff_eq, decide_eq_true_eq]; omega)
  clear h hl
  go_enter Tryz.func37, Tryz.ntmps37
  go_wp2_with fail
  refine HN.out.mono ?_
  rintro e w1 ⟨rfl, hb1⟩
  go_wp2
  go_ret
  exact ⟨by rw [← HD.out]; simp, hb1⟩
end Go.Proofs.YtnknidfpkmnncaaGreat
/- The library's IndexFunc and DeleteFunc over terms, with the test of Reducta. -/
namespace Go.Proofs.YtnknidfpkmnncaaGreat
open Go.RowKit

/-- What Reducta's closure has captured: the level and the degree. -/
structure RedOk (w : World) (p1 p2 j : Nat) (d : Int) : Prop where
  c1 : w.cell? ⟨p1, 0, none⟩ = some (.int .i64 ((j : Int) + 1))
  c2 : w.cell? ⟨p2, 0, none⟩ = some (.int .i64 d)
theorem RedOk.below {w w' : World} {p1 p2 j : Nat} {d : Int} (h : RedOk w p1 p2 j d) (hb : Below w.heap.size w w') : RedOk w' p1 p2 j d :=
  ⟨(hb.cell (p := ⟨p1, 0, none⟩) (World.block_lt_of_cell? w _ h.c1)).trans h.c1, (hb.cell (p := ⟨p2, 0, none⟩) (World.block_lt_of_cell? w _ h.c2)).trans h.c2⟩
theorem RedOk.only {w w' : World} {p1 p2 j g : Nat} {d : Int} (h : RedOk w p1 p2 j d) (hO : Only g w w') (h1 : p1 ≠ g) (h2 : p2 ≠ g) : RedOk w' p1 p2 j d :=
  ⟨(World.grownBy.cell_far hO ⟨p1, 0, none⟩ (World.block_lt_of_cell? w _ h.c1) (fun e => h1 (by injection e))).trans h.c1, (World.grownBy.cell_far hO ⟨p2, 0, none⟩ (World.block_lt_of_cell? w _ h.c2) (fun e => h2 (by injection e))).trans h.c2⟩
def rc (j : Nat) (d : Int) (t : TV) : Int := ex t.e j - d

set_option maxRecDepth 100000 in
set_option maxHeartbeats 1000000 in
theorem red_test (p1 p2 j : Nat) (d : Int) (t : TV) (w : World) (hj : j < 4) (h : RedOk w p1 p2 j d) :
    Calls Tryz.prog 39 #[.agg #[.bool t.neg, .slice t.A t.n t.c, .int .i64 t.e.1, .int .i64 t.e.2.1, .int .i64 t.e.2.2.1, .int .i64 t.e.2.2.2], .pointer (some ⟨p1, 0, none⟩), .pointer (some ⟨p2, 0, none⟩)] w (ValP (.bool (rc j d t == 0)) w) := by
  have hb0 : Below w.heap.size w (w.alloc (.cells #[.bool t.neg, .slice t.A t.n t.c, .int .i64 t.e.1, .int .i64 t.e.2.1, .int .i64 t.e.2.2.1, .int .i64 t.e.2.2.2] 57)) := (Below.refl _ _).alloc (Nat.le_refl _) _
  have hTB : TBox (w.alloc (.cells #[.bool t.neg, .slice t.A t.n t.c, .int .i64 t.e.1, .int .i64 t.e.2.1, .int .i64 t.e.2.2.1, .int .i64 t.e.2.2.2] 57)) w.heap.size t.neg t.A t.n t.c t.e := heap_alloc_new w _
  have hx := hTB.exCell j hj
  have hR := h.below hb0
  have q1 := hR.c1
  have q2 := hR.c2
  have HD := Lib.hid (show (ex t.e j == d) = (rc j d t == 0) by unfold rc; rw [Bool.eq_iff_iff, beq_iff_eq, beq_iff_eq]; omega)
  generalize ex t.e j = x at *
  obtain ⟨W, hW⟩ : ∃ W, W = (w.alloc (.cells #[.bool t.neg, .slice t.A t.n t.c, .int .i64 t.e.1, .int .i64 t.e.2.1, .int .i64 t.e.2.2.1, .int .i64 t.e.2.2.2] 57)) := ⟨_, rfl⟩
  obtain ⟨g, hg⟩ : ∃ g, g = w.heap.size := ⟨_, rfl⟩
  rw [← hW] at hb0 q1 q2
  rw [← hW, ← hg] at hx
  have j0 : (0 : Int) ≤ (j : Int) := by omega
  have j1 : (j : Int) < 4 := by omega
  have j2 : IntKind.i64.wrap (j : Int) = (j : Int) := IntWalk.i64_in _ (by omega)
  clear hTB hR h
  go_enter Tryz.func39, Tryz.ntmps39
  go_upto_region 1 with (fail)
  rw [← hW, ← hg]
  clear hW hg
  go_quiet (fail)
  go_wp2
  go_ret
  refine ⟨by rw [← HD.out]; rfl, hb0.trans (Drawn.below ?_ _)⟩
  repeat (first | exact Drawn.refl _ | refine Drawn.drewN ?_ _)
set_option maxRecDepth 100000 in
set_option maxHeartbeats 1000000 in
theorem indexR_any (p1 p2 j0 : Nat) (d0 : Int) (hj0 : j0 < 4) (zc : TV → Int) (hzc : zc = rc j0 d0) (g cap n : Nat) (L : List TV) (w : World) (h : Terms w g L) (hn : L.length = n) (hcap : n ≤ cap) (_hbd : cap ≤ 9223372036854775807) (hnb : n ≤ 1099511627776) (hc : RedOk w p1 p2 j0 d0) :
    Calls Tryz.prog 63 #[.slice (some ⟨g, 0, none⟩) n cap, .func (.func 39) #[] #[.pointer (some ⟨p1, 0, none⟩), .pointer (some ⟨p2, 0, none⟩)]] w (IdxP g zc L w) := by
  have HN := Lib.hid hn
  have HRT := Lib.hid (show ∀ (t : TV) (w : World), RedOk w p1 p2 j0 d0 → Calls Tryz.prog 39 #[.agg #[.bool t.neg, .slice t.A t.n t.c, .int .i64 t.e.1, .int .i64 t.e.2.1, .int .i64 t.e.2.2.1, .int .i64 t.e.2.2.2], .pointer (some ⟨p1, 0, none⟩), .pointer (some ⟨p2, 0, none⟩)] w (ValP (.bool (zc t == 0)) w) from fun t w h => by rw [hzc]; exact red_test p1 p2 j0 d0 t w hj0 h)
  have HC := Lib.hid hc
  clear hn hc hzc hj0
  go_enter Tryz.func63, Tryz.ntmps63
  go_wp2
  go_loopw [8] (fun i wr => ∃ k : Nat, k ≤ n ∧ i = .int .i64 k ∧ Below w.heap.size w wr ∧ Hid (∀ s ∈ L.take k, zc s ≠ 0)) (fun i _ => n - (intOf i).toNat)
  case atStart => exact ⟨0, Nat.zero_le _, rfl, Below.refl _ _, Lib.hid (by simp)⟩
  case round =>
    obtain ⟨k, hk, rfl, hb, HV⟩ := hrel
    by_cases hlt : k < n
    · have hkL : k < L.length := by rw [HN.out]; exact hlt
      obtain ⟨t, ht⟩ : ∃ t, L[k]? = some t := ⟨_, List.getElem?_eq_getElem hkL⟩
      have hT := h.below hb
      obtain ⟨c0, c1, c2, c3, c4, c5⟩ := hT.six ht
      have hcf := (HC.out.below hb)
      have htk : L = L.take k ++ t :: L.drop (k + 1) := by
        have h1 := List.getElem?_eq_some_iff.1 ht
        rw [← h1.2, ← List.drop_eq_getElem_cons h1.1, List.take_append_drop]
      have HTK := Lib.hid htk
      have i0 : (0 : Int) ≤ (k : Int) := by omega
      have i1 : (k : Int) < (n : Int) := by omega
      clear ht htk hkL
      by_cases hz : zc t = 0
      · have hz' : (zc t == 0) = true := by rw [hz]; rfl
        have HZ := Lib.hid hz
        clear hz
        go_wp2_with fail
        refine (HRT.out t _ hcf).mono ?_
        rintro e w1 ⟨rfl, hb1⟩
        clear hT hcf c0 c1 c2 c3 c4 c5
        go_wp2
        go_ret
        refine ⟨.inr ⟨L.take k, t, L.drop (k + 1), HTK.out, HV.out, HZ.out, ?_⟩, hb.trans (hb1.mono hb.size)⟩
        rw [List.length_take, HN.out, Nat.min_eq_left hk]
        rfl
      · have hz' : (zc t == 0) = false := by rw [beq_eq_false_iff_ne]; exact hz
        have HV2 := Lib.hid (show ∀ s ∈ L.take (k + 1), zc s ≠ 0 from fun s hs => by
          rw [HTK.out] at hs
          have hl : (L.take k).length = k := by rw [List.length_take, HN.out]; omega
          rw [List.take_append, hl, List.take_of_length_le (by rw [hl]; omega), List.mem_append] at hs
          rcases hs with hs | hs
          · exact HV.out s hs
          · rw [show k + 1 - k = 1 by omega] at hs
            simp at hs
            rw [hs]; exact hz)
        clear hz
        go_wp2_with fail
        refine (HRT.out t _ hcf).mono ?_
        rintro e w1 ⟨rfl, hb1⟩
        clear hT hcf c0 c1 c2 c3 c4 c5
        have hb2 := hb.trans (hb1.mono hb.size)
        go_wp2
        go_roundw
        case rel => exact ⟨k + 1, by omega, by go_num, hb2, HV2⟩
        case measure => simp [intOf]; omega
    · have hkn : k = n := by omega
      subst hkn
      have HV2 := Lib.hid (show ∀ s ∈ L, zc s ≠ 0 by have := HV.out; rwa [List.take_of_length_le (by rw [HN.out]; omega)] at this)
      clear HV
      go_wp2
      go_ret
      exact ⟨.inl ⟨HV2.out, rfl⟩, hb⟩
set_option maxRecDepth 100000 in
set_option maxHeartbeats 2000000 in
theorem deleteR_any (p1 p2 j0 : Nat) (d0 : Int) (hj0 : j0 < 4) (zc : TV → Int) (hzc : zc = rc j0 d0) (g cap n : Nat) (L : List TV) (w : World) (hg1 : p1 ≠ g) (hg2 : p2 ≠ g) (h : Terms w g L) (hn : L.length = n) (hcap : n ≤ cap) (hbd : cap ≤ 9223372036854775807) (hnb : n ≤ 1099511627776) (hc : RedOk w p1 p2 j0 d0) :
    Calls Tryz.prog 32 #[.slice (some ⟨g, 0, none⟩) n cap, .func (.func 39) #[] #[.pointer (some ⟨p1, 0, none⟩), .pointer (some ⟨p2, 0, none⟩)]] w (DelP g cap zc L w) := by
  have HI := Lib.hid (indexR_any p1 p2 j0 d0 hj0 zc hzc g cap n L w h hn hcap hbd hnb hc)
  have HRT := Lib.hid (show ∀ (t : TV) (w : World), RedOk w p1 p2 j0 d0 → Calls Tryz.prog 39 #[.agg #[.bool t.neg, .slice t.A t.n t.c, .int .i64 t.e.1, .int .i64 t.e.2.1, .int .i64 t.e.2.2.1, .int .i64 t.e.2.2.2], .pointer (some ⟨p1, 0, none⟩), .pointer (some ⟨p2, 0, none⟩)] w (ValP (.bool (zc t == 0)) w) from fun t w h => by rw [hzc]; exact red_test p1 p2 j0 d0 t w hj0 h)
  have HC := Lib.hid hc
  have HN := Lib.hid hn
  clear hc hn hzc hj0
  go_enter Tryz.func32, Tryz.ntmps32
  go_wp2_with fail
  refine HI.out.mono ?_
  rintro e w1 ⟨⟨hall, rfl⟩ | ⟨X, t, Y, rfl, hX, ht, rfl⟩, hb1⟩
  · have hk : keep zc L = L := List.filter_eq_self.2 (fun s hs => by simp [hall s hs])
    have HK := Lib.hid hk
    have HT := Lib.hid (h.below hb1)
    have HO := Lib.hid ((Only.refl g w).below hb1 (Nat.le_refl _))
    clear hk hall h hb1
    go_wp2
    go_ret
    refine ⟨?_, by rw [HK.out]; exact HT.out, HO.out⟩
    rw [HK.out, HN.out]; rfl
  · have HX := Lib.hid hX
    have HT := Lib.hid ht
    have hlen : X.length + 1 + Y.length = n := by have := HN.out; simp at this; omega
    have h1 := h.below hb1
    have hO1 := (Only.refl g w).below hb1 (Nat.le_refl _)
    have hTy := h.ty
    clear hX ht h hb1
    generalize hp : X.length = p at *
    have HP := Lib.hid hp
    clear hp
    have hm1 : ((p : Int) == -1) = false := by rw [beq_eq_false_iff_ne]; omega
    go_wp2
    go_loopw [5, 6] (fun i j wr => ∃ (Y1 Y2 F R : List TV) (q r : Nat), q < r ∧ r ≤ n ∧ i = .int .i64 (q : Int) ∧ j = .int .i64 (r : Int) ∧ Terms wr g ((X ++ F) ++ (R ++ Y2)) ∧ Only g w wr ∧
      Hid (Y = Y1 ++ Y2 ∧ F = keep zc Y1 ∧ p + 1 + Y1.length = r ∧ (X ++ F).length = q ∧ R.length = r - q)) (fun _ j _ => n - (intOf j).toNat)
    case atStart => exact ⟨[], Y, [], [t], p, p + 1, by omega, by omega, rfl, by go_num, by simpa using h1, hO1, Lib.hid ⟨rfl, rfl, rfl, by simpa using HP.out, by simp⟩⟩
    case round =>
      clear h1 hO1
      obtain ⟨Y1, Y2, F, R, q, r, hqr, hrn, rfl, rfl, hT, hO, HV⟩ := hrel
      by_cases hlt : r < n
      · obtain ⟨v, Y2', rfl⟩ : ∃ v Y2', Y2 = v :: Y2' := by
          match Y2 with
          | v :: Y2' => exact ⟨v, Y2', rfl⟩
          | [] => have h1 := HV.out.1; have h2 := HV.out.2.2.1; rw [h1] at hlen; simp at hlen; omega
        have hat : ((X ++ F) ++ (R ++ v :: Y2'))[r]? = some v := by
          have e : (X ++ F) ++ (R ++ v :: Y2') = ((X ++ F) ++ R) ++ v :: Y2' := by simp
          rw [e]
          exact at_len _ v Y2' _ (by have h2 := HV.out.2.2.2.1; have h3 := HV.out.2.2.2.2; rw [List.length_append, h2, h3]; omega)
        obtain ⟨c0, c1, c2, c3, c4, c5⟩ := hT.six hat
        have hvL : v ∈ X ++ t :: Y := by rw [HV.out.1]; simp
        have hcf := HC.out.only hO hg1 hg2
        have hg := hT.lt
        have hbox : Below wr.heap.size wr (wr.alloc (.cells #[.bool v.neg, .slice v.A v.n v.c, .int .i64 v.e.1, .int .i64 v.e.2.1, .int .i64 v.e.2.2.1, .int .i64 v.e.2.2.2] 57)) := (Below.refl _ _).alloc (Nat.le_refl _) _
        have hcf2 := hcf.below hbox
        have hT2 := hT.below hbox
        have hO2 := hO.below hbox (Nat.le_refl _)
        have i0 : (0 : Int) ≤ (r : Int) := by omega
        have i1 : (r : Int) < (n : Int) := by omega
        clear hat hvL hcf hbox
        by_cases hz : zc v = 0
        · have hz' : (zc v == 0) = true := by rw [hz]; rfl
          have HV2 := Lib.hid (show Y = (Y1 ++ [v]) ++ Y2' ∧ F = keep zc (Y1 ++ [v]) ∧ p + 1 + (Y1 ++ [v]).length = r + 1 ∧ (X ++ F).length = q ∧ (R ++ [v]).length = r + 1 - q from
            ⟨by rw [HV.out.1]; simp, by rw [HV.out.2.1]; simp [keep, hz], by have := HV.out.2.2.1; simp; omega, HV.out.2.2.2.1, by simp [HV.out.2.2.2.2]; omega⟩)
          clear hz
          go_wp2_with fail
          refine (HRT.out v _ hcf2).mono ?_
          rintro e w2 ⟨rfl, hb2⟩
          have HT3 := Lib.hid (hT2.below hb2)
          have HO3 := Lib.hid (hO2.below hb2 (Nat.le_refl _))
          clear hcf2 c0 c1 c2 c3 c4 c5 hT hO hT2 hO2 hb2
          go_wp2
          go_roundw
          case rel =>
            refine ⟨Y1 ++ [v], Y2', F, R ++ [v], q, r + 1, by omega, by omega, rfl, by go_num, ?_, HO3.out, HV2⟩
            have e : (X ++ F) ++ (R ++ v :: Y2') = (X ++ F) ++ ((R ++ [v]) ++ Y2') := by simp
            rw [← e]; exact HT3.out
          case measure => simp [intOf]; omega
        · have hz' : (zc v == 0) = false := by rw [beq_eq_false_iff_ne]; exact hz
          obtain ⟨r0, R', rfl⟩ : ∃ r0 R', R = r0 :: R' := by
            match R with
            | r0 :: R' => exact ⟨r0, R', rfl⟩
            | [] => have h1 := HV.out.2.2.2.2; simp at h1; omega
          have HV2 := Lib.hid (show Y = (Y1 ++ [v]) ++ Y2' ∧ F ++ [v] = keep zc (Y1 ++ [v]) ∧ p + 1 + (Y1 ++ [v]).length = r + 1 ∧ (X ++ (F ++ [v])).length = q + 1 ∧ (R' ++ [v]).length = r + 1 - (q + 1) from
            ⟨by rw [HV.out.1]; simp, by rw [HV.out.2.1]; simp [keep, hz], by have := HV.out.2.2.1; simp; omega, by have := HV.out.2.2.2.1; simp at this ⊢; omega, by have := HV.out.2.2.2.2; simp at this ⊢; omega⟩)
          have HPL := Lib.hid HV.out.2.2.2.1
          have i2 : (0 : Int) ≤ (q : Int) := by omega
          have i3 : (q : Int) < (n : Int) := by omega
          clear hz
          go_wp2_with fail
          refine (HRT.out v _ hcf2).mono ?_
          rintro e w2 ⟨rfl, hb2⟩
          obtain ⟨e0, e1, e2, e3, e4, e5⟩ := box_six v hb2
          have hT3 := hT2.below hb2
          have hO3 := hO2.below hb2 (Nat.le_refl _)
          have hat2 : ((X ++ F) ++ ((r0 :: R') ++ v :: Y2'))[q]? = some r0 := at_len _ r0 (R' ++ v :: Y2') _ HPL.out
          obtain ⟨d0, d1, d2, d3, d4, d5⟩ := hT3.six hat2
          have hfz := hT3.frozen
          have HS := Lib.hid (hT3.set6 (i := q) (by have := HPL.out; simp at this ⊢; omega) v)
          have HO3 := Lib.hid (hO3.set6 (i := q * 6) (.bool v.neg) (.slice v.A v.n v.c) (.int .i64 v.e.1) (.int .i64 v.e.2.1) (.int .i64 v.e.2.2.1) (.int .i64 v.e.2.2.2))
          clear hcf2 c0 c1 c2 c3 c4 c5 hT hO hT2 hO2 hat2 hT3 hO3
          go_wp2
          go_roundw
          case rel =>
            refine ⟨Y1 ++ [v], Y2', F ++ [v], R' ++ [v], q + 1, r + 1, by omega, by omega, by go_num, by go_num, ?_, HO3.out, HV2⟩
            have e : ((X ++ F) ++ ((r0 :: R') ++ v :: Y2')).set q v = (X ++ (F ++ [v])) ++ ((R' ++ [v]) ++ Y2') := by
              rw [← HPL.out, List.set_append_right _ _ (Nat.le_refl _)]
              simp
            rw [← e]; exact HS.out
          case measure => simp [intOf]; omega
      · have hrn' : r = n := by omega
        subst hrn'
        have hY2 : Y2 = [] := by
          have h1 := HV.out.1; have h2 := HV.out.2.2.1
          rw [h1] at hlen
          simp at hlen
          exact List.eq_nil_of_length_eq_zero (by omega)
        subst hY2
        have hfin : keep zc (X ++ t :: Y) = X ++ F := by
          have h1 := HV.out.1
          rw [List.append_nil] at h1
          rw [HV.out.2.1, ← h1]
          have h2 : X.filter (fun t => !(zc t == 0)) = X := List.filter_eq_self.2 (fun s hs => by simp [HX.out s hs])
          simp [keep, List.filter_append, HT.out, h2]
        have hpl : (X ++ F).length = q := HV.out.2.2.2.1
        have hrl : ((X ++ F) ++ (R ++ [])).length = r := by
          have := HV.out.2.2.2.2
          rw [List.length_append, hpl, List.append_nil, this]; omega
        have hcl := fun (c : Nat) (ty : TypeId) => run_clear_terms g q (r - q) c r _ wr hT hrl (by omega) (by omega) ty
        have HF := Lib.hid hfin
        have HPL := Lib.hid hpl
        have HS := Lib.hid ((hT.prefix_).setCells (zeroTerms (r - q)) (q * 6) wr (by rw [hpl]; exact Nat.le_refl _))
        have HO := Lib.hid (hO.setCells (zeroTerms (r - q)) (q * 6) wr)
        have i0 : (0 : Int) ≤ (q : Int) := by omega
        have i1 : (q : Int) ≤ (r : Int) := by omega
        have i2 : q < cap := by omega
        clear hfin hpl hrl hT hO
        go_wp2
        go_ret
        exact ⟨by rw [HF.out, HPL.out]; rfl, by rw [HF.out]; exact HS.out, HO.out⟩

theorem indexR_nil (p1 p2 : Nat) (w : World) :
    Calls Tryz.prog 63 #[.slice none 0 0, .func (.func 39) #[] #[.pointer (some ⟨p1, 0, none⟩), .pointer (some ⟨p2, 0, none⟩)]] w fun e w' => e = .returned (.int .i64 (-1)) ∧ w = w' := by
  go_enter Tryz.func63, Tryz.ntmps63
  go_wp2
  go_loop [8] (fun i => i = .int .i64 0) (fun _ => 0)
  case atStart => rfl
  case round =>
    obtain rfl := hrel
    go_wp2
    go_ret
    exact ⟨rfl, rfl⟩
theorem deleteR_nil (p1 p2 : Nat) (w : World) :
    Calls Tryz.prog 32 #[.slice none 0 0, .func (.func 39) #[] #[.pointer (some ⟨p1, 0, none⟩), .pointer (some ⟨p2, 0, none⟩)]] w fun e w' => e = .returned (.slice none 0 0) ∧ w = w' := by
  go_enter Tryz.func32, Tryz.ntmps32
  go_wp2_with fail
  refine (indexR_nil p1 p2 _).mono ?_
  rintro e w1 ⟨rfl, rfl⟩
  go_wp2
  go_ret
  exact ⟨rfl, rfl⟩
end Go.Proofs.YtnknidfpkmnncaaGreat
/- The library's Clone over terms; lists of polynomials in memory. -/
namespace Go.Proofs.YtnknidfpkmnncaaGreat
open Go.RowKit

/-- What Clone gives: a row of its own with the same terms. -/
def CloneP (L : List TV) (n : Nat) (w : World) (e : Ending) (w' : World) : Prop :=
  ∃ v, e = .returned v ∧ w'.ownsRow w.heap.size 57 6 v n (flat L) ∧ Below w.heap.size w w'
set_option maxRecDepth 100000 in
set_option maxHeartbeats 1000000 in
theorem clone_any (B : Nat) (A : Option Addr) (n c : Nat) (L : List TV) (w : World) (h : Row B 57 w A n c 6 (flat L)) (hn : n ≤ 1073741824) :
    Calls Tryz.prog 38 #[.slice A n c] w (CloneP L n w) := by
  obtain ⟨i0, hi0, hz0, hz1, hz2⟩ := info_parts terminfo
  cases A with
  | none =>
    have hn0 : n = 0 := by
      rcases Nat.eq_zero_or_pos n with h0 | h0
      · exact h0
      · obtain ⟨ad, e, _⟩ := h.cell h0
        cases e
    subst hn0
    have hL : L = [] := by
      have h1 := h.len
      rw [flat_length] at h1
      exact List.eq_nil_of_length_eq_zero (by omega)
    subst hL
    have hnil : ∀ W : World, (binOp .eql 27 (.slice none 0 c) (.slice none 0 0)).run Tryz.prog W = .ok (.bool true) W := fun W => Lib.run_eql_slice_nil W 27 57 none 0 c 0 0 Tryz.underlying27
    go_enter Tryz.func38, Tryz.ntmps38
    go_wp2
    go_ret
    exact ⟨_, rfl, World.ownsRow_nil _ _ _ _, Below.refl _ _⟩
  | some ad =>
    have hnil : ∀ W : World, (binOp .eql 27 (.slice (some ad) n c) (.slice none 0 0)).run Tryz.prog W = .ok (.bool false) W := fun W => Lib.run_eql_slice_nil W 27 57 (some ad) n c 0 0 Tryz.underlying27
    have hal : Below w.heap.size w (w.alloc (.cells #[] 57)) := (Below.refl _ _).alloc (Nat.le_refl _) _
    have hr := h.below (by omega) hal (Nat.le_refl _)
    have hown0 : (w.alloc (.cells #[] 57)).ownsRow w.heap.size 57 6 (.slice (some ⟨w.heap.size, 0, none⟩) 0 0) 0 [] :=
      ⟨by simp, .inr ⟨w.heap.size, 0, #[], rfl, Nat.le_refl _, heap_alloc_new w _, Nat.le_refl _, by simp [maxLen], by simp, by simp⟩⟩
    go_enter Tryz.func38, Tryz.ntmps38
    go_wp2_with (at_builtin; refine wpList_append_row _ rfl _ _ 27 rfl w.heap.size 57 i0 _ 6 64 Tryz.underlying27 hi0 hz0 hz1 hz2 rfl (by omega) (.slice (some ⟨w.heap.size, 0, none⟩) 0 0) 0 [] rfl hown0 B _ (some ad) n c (flat L) rfl hr (flat_one _) (by simp only [maxLen]; omega) (by omega) (by simp) ?_; intro v1 w1 hown hg _)
    have hown1 := hown
    rw [Nat.zero_add, List.nil_append] at hown1
    have hb1 := hal.grown hg (by simp) (fun k hk => by
      have : w.heap.size = k := by simpa [Value.ownBlock] using hk
      omega)
    clear hown hg
    go_wp2
    go_ret
    exact ⟨_, rfl, hown1, hb1⟩

/-- A cell that holds a polynomial. -/
def PolyCell (B : Nat) (w : World) (u : Value) (al : List Tm) : Prop := ∃ A n c, u = .slice A n c ∧ PolyC B w A n c al
def PRow (B : Nat) (w : World) : List Value → List (List Tm) → Prop
  | [], [] => True
  | u :: us, a :: ps => PolyCell B w u a ∧ PRow B w us ps
  | _, _ => False
theorem PolyCell.below {B : Nat} {w w' : World} {u : Value} {al : List Tm} (h : PolyCell B w u al) (hb : Below w.heap.size w w') : PolyCell B w' u al := by
  obtain ⟨A, n, c, e, hp⟩ := h
  exact ⟨A, n, c, e, hp.below hb (Nat.le_refl _)⟩
theorem PRow.mono {B B' : Nat} {w w' : World} {us : List Value} {ps : List (List Tm)} (h : PRow B w us ps) (hm : ∀ u a, PolyCell B w u a → PolyCell B' w' u a) : PRow B' w' us ps := by
  induction us generalizing ps with
  | nil => cases ps with
    | nil => trivial
    | cons => exact h.elim
  | cons u us ih => cases ps with
    | nil => exact h.elim
    | cons a ps => exact ⟨hm u a h.1, ih h.2⟩
theorem PRow.below {B : Nat} {w w' : World} {us : List Value} {ps : List (List Tm)} (h : PRow B w us ps) (hb : Below w.heap.size w w') : PRow B w' us ps := h.mono fun _ _ hc => hc.below hb
theorem PRow.length {B : Nat} {w : World} {us : List Value} {ps : List (List Tm)} (h : PRow B w us ps) : us.length = ps.length := by
  induction us generalizing ps with
  | nil => cases ps with
    | nil => rfl
    | cons => exact h.elim
  | cons u us ih => cases ps with
    | nil => exact h.elim
    | cons a ps => rw [List.length_cons, List.length_cons, ih h.2]
theorem PRow.append {B : Nat} {w : World} {us vs : List Value} {ps bs : List (List Tm)} (h : PRow B w us ps) (k : PRow B w vs bs) : PRow B w (us ++ vs) (ps ++ bs) := by
  induction us generalizing ps with
  | nil => cases ps with
    | nil => exact k
    | cons => exact h.elim
  | cons u us ih => cases ps with
    | nil => exact h.elim
    | cons a ps => exact ⟨h.1, ih h.2⟩
theorem PRow.at_ {B : Nat} {w : World} {us : List Value} {ps : List (List Tm)} (h : PRow B w us ps) {i : Nat} {a : List Tm} (ha : ps[i]? = some a) : ∃ u, us[i]? = some u ∧ PolyCell B w u a := by
  induction us generalizing ps i with
  | nil => cases ps with
    | nil => simp at ha
    | cons => exact h.elim
  | cons u us ih => cases ps with
    | nil => exact h.elim
    | cons a' ps =>
      cases i with
      | zero => simp at ha; subst ha; exact ⟨u, rfl, h.1⟩
      | succ i => simpa using ih h.2 (by simpa using ha)
theorem PRow.one_ {B : Nat} {w : World} {us : List Value} {ps : List (List Tm)} (h : PRow B w us ps) : ∀ u ∈ us, u.oneCell' = true := by
  induction us generalizing ps with
  | nil => intro u hu; cases hu
  | cons v us ih => cases ps with
    | nil => exact h.elim
    | cons a ps =>
      intro u hu
      rcases List.mem_cons.1 hu with rfl | hu
      · obtain ⟨A, n, c, e, _⟩ := h.1
        rw [e]; rfl
      · exact ih h.2 u hu
theorem PolyC.grownP {B : Nat} {w w' : World} {A : Option Addr} {n c : Nat} {al : List Tm} (h : PolyC B w A n c al) {base m : Nat} {v : Value} {xs : List Value} (hown : w.ownsRow base 27 1 v m xs) (hg : w.grownBy w' v.ownBlock) (hB : B ≤ base) : PolyC B w' A n c al := by
  rcases hown.2 with ⟨rfl, _⟩ | ⟨g, cap, cur, rfl, hb, hh, _⟩
  · exact h.below (B' := w.heap.size) ⟨hg.os, hg.tape, hg.output, hg.size, fun k hk => hg.block k hk (by simp [Value.ownBlock])⟩ (Nat.le_refl _)
  · obtain ⟨L, hP⟩ := h
    exact ⟨L, hP.row.other (by omega) hg (Nat.le_trans hB hb) hh (by decide), hP.reps.mono fun t z _ hr => ⟨hr.1, hr.2.other hg (Nat.le_trans hB hb) hh (by decide)⟩⟩
/-- A list of polynomials that the call appends to. -/
structure PL (B : Nat) (w : World) (pl : List (List Tm)) (v : Value) (us : List Value) (wr : World) : Prop where
  own : wr.ownsRow w.heap.size 27 1 v us.length us
  row : PRow B wr us pl
  below : Below w.heap.size w wr
theorem PL.start (B : Nat) (w : World) : PL B w [] (.slice none 0 0) [] w := ⟨World.ownsRow_nil _ _ _ _, by unfold PRow; trivial, Below.refl _ _⟩
theorem PL.later {B : Nat} {w : World} {pl : List (List Tm)} {v : Value} {us : List Value} {wr w1 : World} (h : PL B w pl v us wr) (hb : Below wr.heap.size wr w1) : PL B w pl v us w1 :=
  ⟨own_below h.own hb, h.row.below hb, h.below.trans (hb.mono h.below.size)⟩
theorem PL.push {B : Nat} {w : World} {pl : List (List Tm)} {v : Value} {us : List Value} {wr w3 : World} {al : List Tm} {A : Option Addr} {n c g cap : Nat} (h : PL B w pl v us wr) (hp : PolyC B wr A n c al)
    (hown : w3.ownsRow w.heap.size 27 1 (.slice (some ⟨g, 0, none⟩) (us.length + 1) cap) (us.length + 1) (us ++ [.slice A n c])) (hg : wr.grownBy w3 v.ownBlock) (hB : B ≤ w.heap.size) :
    PL B w (pl ++ [al]) (.slice (some ⟨g, 0, none⟩) (us.length + 1) cap) (us ++ [.slice A n c]) w3 := by
  refine ⟨by rw [List.length_append]; exact hown, ?_, h.below.grown hg h.below.size (fun k hk => own_base h.own k hk)⟩
  exact (h.row.mono fun u a hc => by
    obtain ⟨A', n', c', e, hp'⟩ := hc
    exact ⟨A', n', c', e, hp'.grownP h.own hg hB⟩).append ⟨⟨A, n, c, rfl, hp.grownP h.own hg hB⟩, trivial⟩
theorem polyinfo : (Tryz.prog.info? 27).map (fun i => (i.zero, i.size, i.bytes)) = some (some (.slice none 0 0), 1, 24) := by kernel_rfl
end Go.Proofs.YtnknidfpkmnncaaGreat
/- checkpoly.Reducta. -/
namespace Go.Proofs.YtnknidfpkmnncaaGreat
open Go.RowKit

/-- The polynomial without the terms of degree d in the variable j. -/
def dropL (j : Nat) (d : Int) (al : List Tm) : List Tm := al.filter fun p => !(ex p.2 j - d == 0)
/-- The reducta, f of them at most. -/
def redl (j : Nat) : Nat → List Tm → List (List Tm)
  | 0, _ => []
  | f + 1, r => if 1 ≤ degL j r then r :: (if levL (coefL j (degL j r) r) = 0 then [] else redl j f (dropL j (degL j r) r)) else []
theorem dropL_canon {j : Nat} {d : Int} {al : List Tm} (h : Canon al) : Canon (dropL j d al) :=
  ⟨h.1.filter _, fun p hp => h.2 p (List.mem_filter.1 hp).1⟩
theorem coefL_canon {j : Nat} {d : Int} {al : List Tm} (hj : j < 4) (h : Canon al) : Canon (coefL j d al) := by
  unfold coefL
  have key : ∀ e f : Ex, ex e j = ex f j → cmpE (zeroE j e) (zeroE j f) = cmpE e f := by
    intro e f he
    match j, hj, he with
    | 0, _, he => simp only [ex] at he; simp [cmpE, cmpTo, ex, zeroE, he]
    | 1, _, he => simp only [ex] at he; simp [cmpE, cmpTo, ex, zeroE, he]
    | 2, _, he => simp only [ex] at he; simp [cmpE, cmpTo, ex, zeroE, he]
    | 3, _, he => simp only [ex] at he; simp [cmpE, cmpTo, ex, zeroE, he]
  constructor
  · rw [List.pairwise_map]
    refine List.Pairwise.imp_of_mem ?_ (h.1.filter _)
    intro p q hp hq hpq
    have h1 := (List.mem_filter.1 hp).2
    have h2 := (List.mem_filter.1 hq).2
    rw [beq_iff_eq] at h1 h2
    rw [key p.2 q.2 (by rw [h1, h2])]
    exact hpq
  · intro p hp
    obtain ⟨q, hq, rfl⟩ := List.mem_map.1 hp
    have h1 := h.2 q (List.mem_filter.1 hq).1
    refine ⟨h1.1, validE_iff.2 fun i hi => ?_⟩
    have h2 := validE_iff.1 h1.2 i hi
    match j, hj, i, hi, h2 with
    | 0, _, 0, _, _ => exact Int.le_refl _
    | 0, _, 1, _, h2 => exact h2
    | 0, _, 2, _, h2 => exact h2
    | 0, _, 3, _, h2 => exact h2
    | 1, _, 0, _, h2 => exact h2
    | 1, _, 1, _, _ => exact Int.le_refl _
    | 1, _, 2, _, h2 => exact h2
    | 1, _, 3, _, h2 => exact h2
    | 2, _, 0, _, h2 => exact h2
    | 2, _, 1, _, h2 => exact h2
    | 2, _, 2, _, _ => exact Int.le_refl _
    | 2, _, 3, _, h2 => exact h2
    | 3, _, 0, _, h2 => exact h2
    | 3, _, 1, _, h2 => exact h2
    | 3, _, 2, _, h2 => exact h2
    | 3, _, 3, _, _ => exact Int.le_refl _
theorem l1_coefL (j : Nat) (d : Int) (al : List Tm) : l1 (coefL j d al) ≤ l1 al := by
  unfold coefL
  have : ∀ l : List Tm, l1 (l.map fun p => (p.1, zeroE j p.2)) = l1 l := by
    intro l
    induction l with
    | nil => rfl
    | cons p l ih => rw [List.map_cons, l1_cons, l1_cons, ih]
  rw [this]
  exact l1_filter _ _
/-- A canonical polynomial that is not 0 has its degree, and loses a term. -/
theorem degL_mem {j : Nat} {al : List Tm} : ∀ {d0 : Int}, al.foldl (fun d p => max (max d 0) (ex p.2 j)) d0 = d0 ∨ al.foldl (fun d p => max (max d 0) (ex p.2 j)) d0 = 0 ∨ ∃ p ∈ al, ex p.2 j = al.foldl (fun d p => max (max d 0) (ex p.2 j)) d0 := by
  induction al with
  | nil => intro d0; left; rfl
  | cons p al ih =>
    intro d0
    rw [List.foldl_cons]
    rcases ih (d0 := max (max d0 0) (ex p.2 j)) with h | h | ⟨q, hq, h⟩
    · rw [h]
      by_cases h1 : max d0 0 ≤ ex p.2 j
      · right; right; exact ⟨p, by simp, by omega⟩
      · by_cases h2 : 0 ≤ d0
        · left; omega
        · right; left; omega
    · right; left; exact h
    · right; right; exact ⟨q, by simp [hq], h⟩
theorem dropL_lt {j : Nat} {al : List Tm} (h : 1 ≤ degL j al) : (dropL j (degL j al) al).length < al.length := by
  have h1 := degL_mem (j := j) (al := al) (d0 := -1)
  have e : al.foldl (fun d p => max (max d 0) (ex p.2 j)) (-1) = degL j al := rfl
  rw [e] at h1
  rcases h1 with h1 | h1 | ⟨p, hp, h1⟩
  · omega
  · omega
  · unfold dropL
    rw [← List.countP_eq_length_filter]
    have h2 := List.length_eq_countP_add_countP (p := fun p : Tm => !(ex p.2 j - degL j al == 0)) (l := al)
    have h3 : 0 < al.countP (fun p => decide ¬((!(ex p.2 j - degL j al == 0)) = true)) := by
      rw [List.countP_pos_iff]
      exact ⟨p, hp, by simp [h1]⟩
    omega

theorem redl_fuel {j : Nat} : ∀ {f g : Nat} {r : List Tm}, r.length ≤ f → r.length ≤ g → redl j f r = redl j g r := by
  intro f
  induction f with
  | zero =>
    intro g r hf hg
    have hr : r = [] := List.eq_nil_of_length_eq_zero (by omega)
    subst hr
    cases g with
    | zero => rfl
    | succ g =>
      rw [redl, redl, if_neg]
      have : degL j [] = -1 := rfl
      omega
  | succ f ih =>
    intro g r hf hg
    cases g with
    | zero =>
      have hr : r = [] := List.eq_nil_of_length_eq_zero (by omega)
      subst hr
      rw [redl, redl, if_neg]
      have : degL j [] = -1 := rfl
      omega
    | succ g =>
      rw [redl, redl]
      by_cases h1 : 1 ≤ degL j r
      · have h2 := dropL_lt h1
        rw [if_pos h1, if_pos h1, ih (g := g) (r := dropL j (degL j r) r) (by omega) (by omega)]
      · rw [if_neg h1, if_neg h1]

/-- What comes back is the list of these polynomials, each in canonical form. -/
def PolysP (B : Nat) (pl : List (List Tm)) (w : World) (e : Ending) (w' : World) : Prop :=
  ∃ A n c us, e = .returned (.slice A n c) ∧ us.length = n ∧ Row w.heap.size 27 w' A n c 1 us ∧ PRow B w' us pl ∧ Below w.heap.size w w'
def sliceLen : Value → Nat
  | .slice _ n _ => n
  | _ => 0

set_option maxRecDepth 100000 in
set_option maxHeartbeats 4000000 in
theorem reducta_any (B j : Nat) (A : Option Addr) (n c : Nat) (al : List Tm) (w : World) (hB : B ≤ w.heap.size) (h : PolyW B w A n c al) (hn : n < sortLim) (hl : l1 al < big) (hj : j < 4) :
    Calls Tryz.prog 13 #[.slice A n c, .int .i64 ((j : Int) + 1)] w (PolysP B (redl j (nf al).length (nf al)) w) := by
  obtain ⟨i0, hi0, hz0, hz1, hz2⟩ := info_parts polyinfo
  have hnm : n < 1073741824 := by unfold sortLim at hn; omega
  have hal0 : Below w.heap.size w (w.alloc (.cells #[.int .i64 ((j : Int) + 1)] 3)) := (Below.refl _ _).alloc (Nat.le_refl _) _
  have HN := Lib.hid (normalp_new B A n c al (w.alloc (.cells #[.int .i64 ((j : Int) + 1)] 3)) (Nat.le_trans hB hal0.size) (h.below hal0 (Nat.le_refl _)) hn hl)
  have HL := Lib.hid (show (nf al).length ≤ n by have h4 := length_nf al; have h5 := h.len; omega)
  have HLL := Lib.hid (Nat.lt_of_le_of_lt (l1_nf al) hl)
  have HCN := Lib.hid (nf_canon al)
  generalize nf al = a at *
  obtain ⟨p1, hp1⟩ : ∃ p, p = w.heap.size := ⟨_, rfl⟩
  have hcp1 : (w.alloc (.cells #[.int .i64 ((j : Int) + 1)] 3)).cell? ⟨p1, 0, none⟩ = some (.int .i64 ((j : Int) + 1)) := by
    rw [hp1, cell_of_row _ _ 0 _ _ _ (heap_alloc_new w _)]; rfl
  have hp1l : p1 < (w.alloc (.cells #[.int .i64 ((j : Int) + 1)] 3)).heap.size := by rw [hp1]; simp
  obtain ⟨W, hW⟩ : ∃ W, W = (w.alloc (.cells #[.int .i64 ((j : Int) + 1)] 3)) := ⟨_, rfl⟩
  rw [← hW] at HN hal0 hcp1 hp1l
  clear h hl
  go_enter Tryz.func13, Tryz.ntmps13
  go_wp2_with fail
  rw [← hW, ← hp1]
  have HW := Lib.hid hW
  have HP1 := Lib.hid hp1
  clear hW hp1
  refine HN.out.mono ?_
  rintro e w1 ⟨A', n', c', rfl, h1, hb1, _⟩
  have hcp1' := (hb1.cell (p := ⟨p1, 0, none⟩) hp1l).trans hcp1
  have hbw := hal0.trans (hb1.mono hal0.size)
  have HLn := Lib.hid (show a.length = n' from h1.len)
  have hp1l' : p1 < w1.heap.size := Nat.lt_of_lt_of_le hp1l hb1.size
  clear hcp1 hb1 hp1l
  go_wp2_with fail
  go_loopw [5, 6] (fun v r wr => ∃ (pl : List (List Tm)) (us : List Value) (A1 : Option Addr) (n1 c1 : Nat) (ra : List Tm), r = .slice A1 n1 c1 ∧ n1 ≤ n' ∧ PL B w1 pl v us wr ∧ PolyC B wr A1 n1 c1 ra ∧ pl.length + n1 ≤ n' ∧ Hid (Canon ra ∧ l1 ra < big ∧ redl j a.length a = pl ++ redl j n1 ra)) (fun _ r _ => sliceLen r)
  case atStart => exact ⟨[], [], A', n', c', a, rfl, Nat.le_refl _, PL.start B w1, h1, by simp, Lib.hid ⟨HCN.out, HLL.out, by rw [HLn.out]; rfl⟩⟩
  case round =>
    obtain ⟨W0, rfl⟩ : ∃ y, y = wr := ⟨_, rfl⟩
    obtain ⟨pl, us, A1, n1, c1, ra, rfl, hn1, hPL, hr, hpl, HV⟩ := hrel
    have hlen := hr.len
    have hn1m : n1 < 1073741824 := by have := HL.out; have := HLn.out; omega
    have hB1 : B ≤ w1.heap.size := Nat.le_trans hB hbw.size
    have hB0 : B ≤ W0.heap.size := Nat.le_trans hB1 hPL.below.size
    have hcq := (hPL.below.cell (p := ⟨p1, 0, none⟩) hp1l').trans hcp1'
    have hNF := Lib.hid (nf_of_canon HV.out.1)
    have HDG := Lib.hid (show ∀ W' : World, Below w1.heap.size w1 W' → PolyC B W' A1 n1 c1 ra → Calls Tryz.prog 9 #[.slice A1 n1 c1, .int .i64 ((j : Int) + 1)] W' (ValP (.int .i64 (degL j ra)) W') from fun W' hb hp => by
      have h9 := degree_any B j A1 n1 c1 ra W' (Nat.le_trans hB1 hb.size) (hp.wide HV.out.2.1) (by unfold sortLim; omega) HV.out.2.1 hj
      rw [hNF.out] at h9
      exact h9)
    have HLE := Lib.hid hlen
    obtain ⟨d, hd⟩ : ∃ d, d = degL j ra := ⟨_, rfl⟩
    rw [← hd] at HDG
    have HDD := Lib.hid hd
    have hus : us.length ≤ 1073741824 := by have := hPL.row.length; have := HL.out; have := HLn.out; omega
    clear hd hlen
    by_cases hd1 : 1 ≤ d
    · have hpos : 0 < n1 := by
        have h8 := dropL_lt (j := j) (al := ra) (by rw [← HDD.out]; exact hd1)
        have := HLE.out
        omega
      go_wp2_with fail
      refine (HDG.out _ hPL.below hr).mono ?_
      rintro e w2 ⟨rfl, hb2⟩
      have hPL2 := hPL.later hb2
      have hr2 := hr.below hb2 (Nat.le_refl _)
      have hcq2 := (hb2.cell (p := ⟨p1, 0, none⟩) (World.block_lt_of_cell? _ _ hcq)).trans hcq
      clear hPL hr hb2 hcq
      have hal2 : Below w2.heap.size w2 (w2.alloc (.cells #[.slice A1 n1 c1] 27)) := (Below.refl _ _).alloc (Nat.le_refl _) _
      have hPL3 := hPL2.later hal2
      have hr3 := hr2.below hal2 (Nat.le_refl _)
      have hsz : w1.heap.size ≤ w2.heap.size := hPL2.below.size
      go_wp2_with (at_builtin; refine wpList_append_lies _ rfl _ _ _ rfl w1.heap.size 27 i0 _ 1 24 Tryz.underlying34 hi0 hz0 hz1 hz2 rfl (by omega) u5 us.length us rfl hPL3.own ⟨w2.heap.size, 0, none⟩ 1 1 [.slice A1 n1 c1] rfl rfl (World.news_of_block (cs := #[.slice A1 n1 c1]) (t := 27) (fr := (0, 0)) (heap_alloc_new w2 _)) (by intro u hu; rw [List.mem_singleton.1 hu]; rfl) (by omega) (by simp only [maxLen]; omega) (by omega) (by simp; omega) (w2.heap.size + 1) (by simp) ?_; intro gg cap w3 hown3 hgrow hat hlt3; have hPL4 := hPL3.push hr3 hown3 hgrow hB1; have hr4 := hr3.grownP hPL3.own hgrow hB1; have hcq3 := (hPL4.below.cell (p := ⟨p1, 0, none⟩) hp1l').trans hcp1')
      refine (HDG.out _ hPL4.below hr4).mono ?_
      rintro e w4 ⟨rfl, hb4⟩
      have hal4 : Below w4.heap.size w4 (w4.alloc (.cells #[.int .i64 d] 3)) := (Below.refl _ _).alloc (Nat.le_refl _) _
      have hPL5 := (hPL4.later hb4).later hal4
      have hr5 := (hr4.below hb4 (Nat.le_refl _)).below hal4 (Nat.le_refl _)
      have hcq5 := (hPL5.below.cell (p := ⟨p1, 0, none⟩) hp1l').trans hcp1'
      have hcd5 : (w4.alloc (.cells #[.int .i64 d] 3)).cell? ⟨w4.heap.size, 0, none⟩ = some (.int .i64 d) := by rw [cell_of_row _ _ 0 _ _ _ (heap_alloc_new w4 _)]; rfl
      obtain ⟨p2, hp2⟩ : ∃ p, p = w4.heap.size := ⟨_, rfl⟩
      obtain ⟨W5, hW5⟩ : ∃ y, y = (w4.alloc (.cells #[.int .i64 d] 3)) := ⟨_, rfl⟩
      have hp2l : p2 < W5.heap.size := by rw [hW5, hp2]; simp
      rw [← hW5, ← hp2] at hcd5
      rw [← hW5] at hcq5 hPL5 hr5
      clear hPL2 hPL3 hPL4 hr2 hr3 hr4 hown3 hgrow hat hb4 hal4 hal2 hcq2 hcq3
      have HCO := Lib.hid (coef_any B j A1 n1 c1 ra d W5 (Nat.le_trans hB1 hPL5.below.size) (hr5.wide HV.out.2.1) (by unfold sortLim; omega) HV.out.2.1 hj)
      rw [hNF.out] at HCO
      go_upto_region 6 with (fail)
      rw [← hW5, ← hp2]
      clear hW5 hp2
      go_wp2_with fail
      refine HCO.out.mono ?_
      rintro e w6 ⟨A6, n6, c6, rfl, h6, hb6⟩
      have hlc : l1 (coefL j d ra) < big := Nat.lt_of_le_of_lt (l1_coefL j d ra) HV.out.2.1
      have hn6 : n6 ≤ n1 := by have h8 := h6.len; have h9 := coefL_len j d ra; have := HLE.out; omega
      have HK := Lib.hid (constant_any B A6 n6 c6 (coefL j d ra) w6 (Nat.le_trans hB1 (hPL5.later hb6).below.size) (h6.wide hlc) (by unfold sortLim; omega) hlc)
      rw [nf_of_canon (coefL_canon hj HV.out.1)] at HK
      have hPL6 := hPL5.later hb6
      have hr6 := hr5.below hb6 (Nat.le_refl _)
      have hcd6 := (hb6.cell (p := ⟨p2, 0, none⟩) hp2l).trans hcd5
      have hp2l6 : p2 < w6.heap.size := Nat.lt_of_lt_of_le hp2l hb6.size
      clear hPL5 hr5 hb6 hcd5 hcq5 HCO h6 hlc hp2l
      by_cases hlev : levL (coefL j d ra) = 0
      · have hdl : decide (levL (coefL j d ra) = 0) = true := decide_eq_true hlev
        have HRE := Lib.hid (show redl j a.length a = pl ++ [ra] by
          rw [HV.out.2.2]
          obtain ⟨q, rfl⟩ : ∃ q, n1 = q + 1 := ⟨n1 - 1, by omega⟩
          rw [redl, ← HDD.out, if_pos hd1, if_pos hlev])
        clear hlev
        go_wp2_with fail
        refine HK.out.mono ?_
        rw [hdl]
        rintro e w7 ⟨rfl, hb7⟩
        have HPL7 := Lib.hid (hPL6.later hb7)
        clear hPL6 hr6 hb7 hcd6 HK
        go_wp2
        go_ret
        exact ⟨_, _, _, us ++ [.slice A1 n1 c1], rfl, by simp, by have h9 := HPL7.out.own; rw [List.length_append] at h9; exact Row.of_own h9, by rw [HRE.out]; exact HPL7.out.row, hbw.trans (HPL7.out.below.mono hbw.size)⟩
      · have hdl : decide (levL (coefL j d ra) = 0) = false := decide_eq_false hlev
        have HRE := Lib.hid (show redl j a.length a = (pl ++ [ra]) ++ redl j (n1 - 1) (dropL j d ra) by
          rw [HV.out.2.2]
          obtain ⟨q, rfl⟩ : ∃ q, n1 = q + 1 := ⟨n1 - 1, by omega⟩
          rw [redl, ← HDD.out, if_pos hd1, if_neg hlev]
          simp)
        have HDL := Lib.hid (show (dropL j d ra).length ≤ n1 - 1 by
          have h8 := dropL_lt (j := j) (al := ra) (by rw [← HDD.out]; exact hd1)
          rw [← HDD.out] at h8
          have := HLE.out
          omega)
        clear hlev
        go_wp2_with fail
        refine HK.out.mono ?_
        rw [hdl]
        rintro e w7 ⟨rfl, hb7⟩
        have hPL7 := hPL6.later hb7
        have hr7 := hr6.below hb7 (Nat.le_refl _)
        have hcd7 := (hb7.cell (p := ⟨p2, 0, none⟩) hp2l6).trans hcd6
        have hcq7 := (hPL7.below.cell (p := ⟨p1, 0, none⟩) hp1l').trans hcp1'
        have hp2l7 : p2 < w7.heap.size := Nat.lt_of_lt_of_le hp2l6 hb7.size
        clear hPL6 hr6 hb7 hcd6 hp2l6 HK
        have hs7 : w1.heap.size ≤ w7.heap.size := hPL7.below.size
        obtain ⟨L, hP⟩ := hr7
        go_wp2_with fail
        refine (clone_any B A1 n1 c1 L w7 hP.row (by omega)).mono ?_
        rintro e w8 ⟨v8, rfl, hown8, hb8⟩
        obtain ⟨g8, cap8, rfl, hg8, hg8l⟩ := hown8.form hpos
        have hT8 := Terms.of_own hown8
        have hcap8 := (Row.of_own (B := B) hown8).cap
        have hbd8 := (Row.of_own (B := B) hown8).bd
        have hrep8 := hP.reps.mono (R' := CoefC B w8) fun t z _ hr => hr.below hb8 (Nat.le_refl _)
        have hR8 : RedOk w8 p1 p2 j d := (RedOk.mk hcq7 hcd7).below hb8
        have HDE := Lib.hid (deleteR_any p1 p2 j d hj (rc j d) rfl g8 cap8 n1 L w8 (by omega) (by omega) hT8 hP.lenL hcap8 hbd8 (by omega) hR8)
        have HTY := Lib.hid hT8.ty
        have HLn1 := Lib.hid hP.lenL
        clear hown8 hT8 hR8 hcd7 hcq7 hP
        go_wp2_with fail
        refine HDE.out.mono ?_
        rintro e w9 ⟨rfl, hT9, hO9⟩
        have hb79 : Below w7.heap.size w7 w9 := hb8.grown hO9 hb8.size (fun k hk => by injection hk with hk; omega)
        have hPL9 := hPL7.later hb79
        have hBg : B ≤ g8 := by omega
        have hrep9 := (hrep8.filter (f := fun t => !(rc j d t == 0)) (g := fun p => !(ex p.2 j - d == 0)) fun t p _ he _ => by unfold rc; rw [he]).mono (R' := CoefC B w9) fun t z _ hr => hr.only hO9 hBg HTY.out (by decide)
        have hkl : (keep (rc j d) L).length ≤ n1 - 1 := by have h8 : (keep (rc j d) L).length = (dropL j d ra).length := hrep9.length; have := HDL.out; omega
        have hr9 : PolyC B w9 (some ⟨g8, 0, none⟩) (keep (rc j d) L).length cap8 (dropL j d ra) := ⟨keep (rc j d) L, Row.of_terms hT9 rfl (by omega) hbd8, hrep9⟩
        have HV9 := Lib.hid (show Canon (dropL j d ra) ∧ l1 (dropL j d ra) < big ∧ redl j a.length a = (pl ++ [ra]) ++ redl j (keep (rc j d) L).length (dropL j d ra) from
          ⟨dropL_canon HV.out.1, Nat.lt_of_le_of_lt (l1_filter _ _) HV.out.2.1, by rw [HRE.out, redl_fuel (f := n1 - 1) (g := (keep (rc j d) L).length) HDL.out (Nat.le_of_eq hrep9.length.symm)]⟩)
        clear hPL7 hT9 hO9 hb79 hrep8 hrep9 hb8
        generalize (keep (rc j d) L).length = n9 at *
        go_wp2
        go_roundw
        case rel => exact ⟨pl ++ [ra], us ++ [.slice A1 n1 c1], some ⟨g8, 0, none⟩, n9, cap8, dropL j d ra, rfl, by omega, hPL9, hr9, by simp; omega, HV9⟩
        case measure => simp [sliceLen]; omega
    · have HRE := Lib.hid (show redl j a.length a = pl by
        rw [HV.out.2.2]
        cases n1 with
        | zero => rw [redl, List.append_nil]
        | succ q => rw [redl, ← HDD.out, if_neg hd1, List.append_nil])
      go_wp2_with fail
      refine (HDG.out _ hPL.below hr).mono ?_
      rintro e w2 ⟨rfl, hb2⟩
      have HPL7 := Lib.hid (hPL.later hb2)
      obtain ⟨A9, c9, rfl⟩ := own_slice hPL.own
      clear hPL hr hb2 hcq
      go_wp2
      go_ret
      exact ⟨_, _, _, us, rfl, rfl, Row.of_own HPL7.out.own, by rw [HRE.out]; exact HPL7.out.row, hbw.trans (HPL7.out.below.mono hbw.size)⟩
end Go.Proofs.YtnknidfpkmnncaaGreat
/- Plain laws of values of polynomials at four integers. -/
namespace Go.Proofs.YtnknidfpkmnncaaGreat

/-- The factors of a term, up to the variable k. -/
def tk (x : Ex) (p : Tm) : Nat → Int
  | 0 => p.1
  | k + 1 => tk x p k * ex x k ^ (ex p.2 k).toNat
/-- The value of a term. -/
def evT (x : Ex) (p : Tm) : Int := tk x p 4
/-- The value of a polynomial. -/
def ev (x : Ex) : List Tm → Int
  | [] => 0
  | p :: al => evT x p + ev x al
theorem ev_append (x : Ex) (a b : List Tm) : ev x (a ++ b) = ev x a + ev x b := by
  induction a with
  | nil => simp [ev]
  | cons p a ih => rw [List.cons_append, ev, ev, ih]; omega
theorem ev_step {x : Ex} {al : List Tm} {k : Nat} {p : Tm} (h : al[k]? = some p) : ev x (al.take (k + 1)) = ev x (al.take k) + evT x p := by
  rw [List.take_add_one, h, ev_append]
  simp [ev]
/-- The part of a term without its coefficient. -/
def mk (x : Ex) (e : Ex) : Nat → Int
  | 0 => 1
  | k + 1 => mk x e k * ex x k ^ (ex e k).toNat
theorem tk_mk (x : Ex) (p : Tm) (k : Nat) : tk x p k = p.1 * mk x p.2 k := by
  induction k with
  | zero => simp [tk, mk]
  | succ k ih => rw [tk, mk, ih, Int.mul_assoc]
theorem evT_mk (x : Ex) (p : Tm) : evT x p = p.1 * mk x p.2 4 := tk_mk x p 4
theorem mk_add (x e f : Ex) (he : ∀ j, j < 4 → 0 ≤ ex e j) (hf : ∀ j, j < 4 → 0 ≤ ex f j) : ∀ k, k ≤ 4 → mk x (addE e f) k = mk x e k * mk x f k := by
  intro k
  induction k with
  | zero => intro _; simp [mk]
  | succ k ih =>
    intro hk
    have h1 : ex (addE e f) k = ex e k + ex f k := by
      match k, hk with
      | 0, _ => rfl
      | 1, _ => rfl
      | 2, _ => rfl
      | 3, _ => rfl
    have h2 := he k (by omega)
    have h3 := hf k (by omega)
    rw [mk, mk, mk, ih (by omega), h1, show (ex e k + ex f k).toNat = (ex e k).toNat + (ex f k).toNat by omega, Int.pow_add]
    generalize mk x e k = a
    generalize mk x f k = b
    generalize ex x k ^ (ex e k).toNat = c
    generalize ex x k ^ (ex f k).toNat = d
    rw [Int.mul_assoc, Int.mul_assoc, Int.mul_left_comm b c d]
theorem evT_mul (x : Ex) (p q : Tm) (hp : validE p.2 = true) (hq : validE q.2 = true) : evT x (mulT p q) = evT x p * evT x q := by
  rw [evT_mk, evT_mk, evT_mk]
  show p.1 * q.1 * mk x (addE p.2 q.2) 4 = _
  rw [mk_add x p.2 q.2 (validE_iff.1 hp) (validE_iff.1 hq) 4 (Nat.le_refl _)]
  generalize mk x p.2 4 = a
  generalize mk x q.2 4 = b
  rw [Int.mul_assoc, Int.mul_assoc, Int.mul_left_comm q.1 a b]
theorem ev_map (x : Ex) (p : Tm) (b : List Tm) (hp : validE p.2 = true) (hb : ∀ q ∈ b, validE q.2 = true) : ev x (b.map (mulT p)) = evT x p * ev x b := by
  induction b with
  | nil => simp [ev]
  | cons q b ih =>
    rw [List.map_cons, ev, ev, ih (fun r hr => hb r (List.mem_cons_of_mem _ hr)), evT_mul x p q hp (hb q (by simp)), Int.mul_add]
theorem ev_prodL (x : Ex) (a b : List Tm) (ha : ∀ p ∈ a, validE p.2 = true) (hb : ∀ q ∈ b, validE q.2 = true) : ev x (prodL a b) = ev x a * ev x b := by
  induction a with
  | nil => simp [prodL, ev]
  | cons p a ih =>
    show ev x (b.map (mulT p) ++ prodL a b) = _
    rw [ev_append, ih (fun r hr => ha r (List.mem_cons_of_mem _ hr)), ev_map x p b (ha p (by simp)) hb, ev, Int.add_mul]
theorem ev_ins (x : Ex) (p : Tm) (l : List Tm) : ev x (ins p l) = evT x p + ev x l := by
  induction l with
  | nil =>
    unfold ins
    split
    · rename_i h; rw [evT_mk, h]; simp [ev]
    · rfl
  | cons q l ih =>
    unfold ins
    split
    · split
      · rename_i h; rw [evT_mk, h]; simp
      · rfl
    · split
      · rename_i h1 h2
        split
        · rename_i h3
          rw [ev, evT_mk, evT_mk, h2]
          have : p.1 = -q.1 := by omega
          rw [this, Int.neg_mul]; omega
        · rw [ev, ev, evT_mk, evT_mk, evT_mk, h2]
          simp only
          rw [Int.add_mul]; omega
      · rw [ev, ev, ih]; omega
theorem ev_foldr (x : Ex) (al : List Tm) : ev x (al.foldr ins []) = ev x al := by
  induction al with
  | nil => rfl
  | cons p al ih => rw [List.foldr_cons, ev_ins, ih, ev]
theorem ev_nf (x : Ex) (al : List Tm) : ev x (nf al) = ev x (valids al) := ev_foldr x _
theorem valids_all {al : List Tm} (h : ∀ p ∈ al, validE p.2 = true) : valids al = al := List.filter_eq_self.2 fun p hp => h p hp

/-- Bounds. -/
theorem natAbs_pow (a : Int) (n : Nat) : (a ^ n).natAbs = a.natAbs ^ n := by
  induction n with
  | zero => simp
  | succ n ih => rw [Int.pow_succ, Nat.pow_succ, Int.natAbs_mul, ih]
/-- All four numbers are small. -/
def XSmall (x : Ex) (M : Nat) : Prop := ∀ j, j < 4 → (ex x j).natAbs ≤ M
/-- All exponents are small. -/
def ESmall (e : Ex) (E : Nat) : Prop := ∀ j, j < 4 → (ex e j).toNat ≤ E
theorem tk_le {x : Ex} {p : Tm} {M E : Nat} (hx : XSmall x M) (he : ESmall p.2 E) (hM : 0 < M) (k n : Nat) (hk : k < 4) (hn : n ≤ E) : (tk x p k * ex x k ^ n).natAbs ≤ p.1.natAbs * M ^ (4 * E) := by
  have h1 : ∀ j, j ≤ 4 → (tk x p j).natAbs ≤ p.1.natAbs * M ^ (j * E) := by
    intro j
    induction j with
    | zero => intro _; simp [tk]
    | succ j ih =>
      intro hj
      rw [tk, Int.natAbs_mul, natAbs_pow, Nat.succ_mul, Nat.pow_add, ← Nat.mul_assoc]
      refine Nat.mul_le_mul (ih (by omega)) ?_
      exact Nat.le_trans (Nat.pow_le_pow_left (hx j (by omega)) _) (Nat.pow_le_pow_right hM (he j (by omega)))
  rw [Int.natAbs_mul, natAbs_pow]
  have h2 : (ex x k).natAbs ^ n ≤ M ^ E := Nat.le_trans (Nat.pow_le_pow_left (hx k hk) _) (Nat.pow_le_pow_right hM hn)
  have h3 := Nat.mul_le_mul (h1 k (by omega)) h2
  rw [Nat.mul_assoc, ← Nat.pow_add] at h3
  refine Nat.le_trans h3 (Nat.mul_le_mul_left _ (Nat.pow_le_pow_right hM ?_))
  have : (k + 1) * E ≤ 4 * E := Nat.mul_le_mul_right _ (by omega)
  rw [Nat.succ_mul] at this
  exact this
theorem evT_le {x : Ex} {p : Tm} {M E : Nat} (hx : XSmall x M) (he : ESmall p.2 E) (hM : 0 < M) : (evT x p).natAbs ≤ p.1.natAbs * M ^ (4 * E) := by
  have h := tk_le hx he hM 3 (ex p.2 3).toNat (by omega) (he 3 (by omega))
  exact h
theorem ev_le {x : Ex} {al : List Tm} {M E : Nat} (hx : XSmall x M) (he : ∀ p ∈ al, ESmall p.2 E) (hM : 0 < M) : (ev x al).natAbs ≤ l1 al * M ^ (4 * E) := by
  induction al with
  | nil => simp [ev]
  | cons p al ih =>
    have h1 := evT_le hx (he p (by simp)) hM
    have h2 := ih (fun q hq => he q (List.mem_cons_of_mem _ hq))
    rw [ev, l1_cons, Nat.add_mul]
    omega
theorem ev_take_le {x : Ex} {al : List Tm} {M E : Nat} (hx : XSmall x M) (he : ∀ p ∈ al, ESmall p.2 E) (hM : 0 < M) (k : Nat) : (ev x (al.take k)).natAbs ≤ l1 al * M ^ (4 * E) :=
  Nat.le_trans (ev_le hx (fun p hp => he p (List.mem_of_mem_take hp)) hM) (Nat.mul_le_mul_right _ (l1_take al k))
end Go.Proofs.YtnknidfpkmnncaaGreat
/- Plain laws: values of sums, differences, products of small polynomials. -/
namespace Go.Proofs.YtnknidfpkmnncaaGreat

theorem evT_neg (x : Ex) (p : Tm) : evT x (-p.1, p.2) = -evT x p := by
  rw [evT_mk, evT_mk, Int.neg_mul]
theorem ev_negL (x : Ex) (al : List Tm) : ev x (negL al) = -ev x al := by
  induction al with
  | nil => simp [negL, ev]
  | cons p al ih =>
    show evT x (-p.1, p.2) + ev x (negL al) = _
    rw [ih, evT_neg, ev]
    omega
/-- All exponents are at least 0. -/
def AllV (al : List Tm) : Prop := ∀ p ∈ al, validE p.2 = true
/-- All exponents are at most E. -/
def AllE (al : List Tm) (E : Nat) : Prop := ∀ p ∈ al, ESmall p.2 E
theorem AllV.append {a b : List Tm} (ha : AllV a) (hb : AllV b) : AllV (a ++ b) := fun p hp => by
  rcases List.mem_append.1 hp with h | h
  · exact ha p h
  · exact hb p h
theorem AllE.append {a b : List Tm} {E : Nat} (ha : AllE a E) (hb : AllE b E) : AllE (a ++ b) E := fun p hp => by
  rcases List.mem_append.1 hp with h | h
  · exact ha p h
  · exact hb p h
theorem AllV.negL {a : List Tm} (ha : AllV a) : AllV (negL a) := fun p hp => by
  obtain ⟨q, hq, rfl⟩ := List.mem_map.1 hp
  exact ha q hq
theorem AllE.negL {a : List Tm} {E : Nat} (ha : AllE a E) : AllE (negL a) E := fun p hp => by
  obtain ⟨q, hq, rfl⟩ := List.mem_map.1 hp
  exact ha q hq
theorem AllV.nf (a : List Tm) : AllV (nf a) := fun p hp => ((nf_canon a).2 p hp).2
theorem AllE.nf {a : List Tm} {E : Nat} (ha : AllE a E) : AllE (nf a) E := fun p hp => by
  obtain ⟨q, hq, he⟩ := mem_nf hp
  rw [he]; exact ha q hq
theorem mem_prodL {a b : List Tm} {r : Tm} (h : r ∈ prodL a b) : ∃ p ∈ a, ∃ q ∈ b, r = mulT p q := by
  obtain ⟨p, hp, h1⟩ := List.mem_flatMap.1 h
  obtain ⟨q, hq, rfl⟩ := List.mem_map.1 h1
  exact ⟨p, hp, q, hq, rfl⟩
theorem ex_addE (e f : Ex) (j : Nat) : ex (addE e f) j = ex e j + ex f j := by
  match j with
  | 0 => rfl
  | 1 => rfl
  | 2 => rfl
  | _ + 3 => rfl
theorem AllV.prodL {a b : List Tm} (ha : AllV a) (hb : AllV b) : AllV (prodL a b) := fun r hr => by
  obtain ⟨p, hp, q, hq, rfl⟩ := mem_prodL hr
  refine validE_iff.2 fun j hj => ?_
  show 0 ≤ ex (addE p.2 q.2) j
  rw [ex_addE]
  have h1 := validE_iff.1 (ha p hp) j hj
  have h2 := validE_iff.1 (hb q hq) j hj
  omega
theorem AllE.prodL {a b : List Tm} {E F : Nat} (ha : AllE a E) (hb : AllE b F) : AllE (prodL a b) (E + F) := fun r hr => by
  obtain ⟨p, hp, q, hq, rfl⟩ := mem_prodL hr
  intro j hj
  show (ex (addE p.2 q.2) j).toNat ≤ _
  rw [ex_addE]
  have h1 := ha p hp j hj
  have h2 := hb q hq j hj
  omega
theorem AllE.mono {a : List Tm} {E F : Nat} (ha : AllE a E) (h : E ≤ F) : AllE a F := fun p hp j hj => Nat.le_trans (ha p hp j hj) h
theorem AllE.ebd {a : List Tm} {E : Nat} (ha : AllE a E) (h : E ≤ 1073741824) : Ebd a := fun p hp j hj => by
  have h1 := ha p hp j hj
  omega
theorem valids_V {a : List Tm} (ha : AllV a) : valids a = a := valids_all ha
theorem ev_nfV {a : List Tm} (ha : AllV a) (x : Ex) : ev x (nf a) = ev x a := by rw [ev_nf, valids_V ha]
theorem ev_add {a b : List Tm} (ha : AllV a) (hb : AllV b) (x : Ex) : ev x (nf (a ++ b)) = ev x a + ev x b := by
  rw [ev_nfV (ha.append hb), ev_append]
theorem ev_sub {a b : List Tm} (ha : AllV a) (hb : AllV b) (x : Ex) : ev x (nf (a ++ negL b)) = ev x a - ev x b := by
  rw [ev_nfV (ha.append hb.negL), ev_append, ev_negL]
  omega
theorem ev_mul {a b : List Tm} (ha : AllV a) (hb : AllV b) (x : Ex) : ev x (nf (prodL (nf a) (nf b))) = ev x a * ev x b := by
  rw [ev_nfV ((AllV.nf a).prodL (AllV.nf b)), ev_prodL x _ _ (AllV.nf a) (AllV.nf b), ev_nfV ha, ev_nfV hb]
theorem lt_big4 {n : Nat} (h : n < 340282366920938463463374607431768211456) : n < big := by
  unfold big
  have h1 := bp_mono (show 4 ≤ 1099511627776 by omega)
  have h2 : bp 4 = 340282366920938463463374607431768211456 := by decide
  omega
theorem tmod7_small (a : Ex) : XSmall (a.1.tmod 7, a.2.1.tmod 7, a.2.2.1.tmod 7, a.2.2.2.tmod 7) 6 := by
  have key : ∀ z : Int, (z.tmod 7).natAbs ≤ 6 := fun z => by
    have h1 := Int.natAbs_tmod z 7
    have h2 : z.natAbs % (7 : Int).natAbs < 7 := Nat.mod_lt _ (by decide)
    omega
  intro j hj
  match j, hj with
  | 0, _ => exact key _
  | 1, _ => exact key _
  | 2, _ => exact key _
  | 3, _ => exact key _
/-- What a drawn polynomial gives. -/
theorem monoV {L : List Tm} (h : ∀ m ∈ L, -128 ≤ m.1 ∧ m.1 ≤ 127 ∧ ∀ j, 0 ≤ ex m.2 j ∧ ex m.2 j ≤ 255) : AllV L := fun p hp => validE_iff.2 fun j _ => ((h p hp).2.2 j).1
theorem fewE {L : List Tm} {E : Nat} (h : FewL L (E : Int)) : AllE L E := fun p hp j hj => by
  have := h p hp j hj
  omega
theorem l1_nf_append (a b : List Tm) : l1 (nf (a ++ b)) ≤ l1 a + l1 b := Nat.le_trans (l1_nf _) (by rw [l1_append]; exact Nat.le_refl _)
theorem l1_nf_sub (a b : List Tm) : l1 (nf (a ++ negL b)) ≤ l1 a + l1 b := Nat.le_trans (l1_nf _) (by rw [l1_append, l1_negL]; exact Nat.le_refl _)
theorem l1_nf_mul (a b : List Tm) : l1 (nf (prodL (nf a) (nf b))) ≤ l1 a * l1 b := Nat.le_trans (l1_nf _) (by rw [l1_prodL]; exact Nat.mul_le_mul (l1_nf a) (l1_nf b))
theorem length_nf_append (a b : List Tm) : (nf (a ++ b)).length ≤ a.length + b.length := Nat.le_trans (length_nf _) (by rw [List.length_append]; exact Nat.le_refl _)
theorem length_negL (b : List Tm) : (negL b).length = b.length := by unfold negL; rw [List.length_map]
theorem length_nf_sub (a b : List Tm) : (nf (a ++ negL b)).length ≤ a.length + b.length := Nat.le_trans (length_nf _) (by rw [List.length_append, length_negL]; exact Nat.le_refl _)
theorem length_nf_mul (a b : List Tm) : (nf (prodL (nf a) (nf b))).length ≤ a.length * b.length := Nat.le_trans (length_nf _) (by rw [length_prodL]; exact Nat.mul_le_mul (length_nf a) (length_nf b))
end Go.Proofs.YtnknidfpkmnncaaGreat
/- Plain laws: the highest terms of a polynomial, taken away. -/
namespace Go.Proofs.YtnknidfpkmnncaaGreat

/-- k added to the exponent at j. -/
def shiftE (j : Nat) (k : Int) (e : Ex) : Ex := match j with
  | 0 => (e.1 + k, e.2.1, e.2.2.1, e.2.2.2)
  | 1 => (e.1, e.2.1 + k, e.2.2.1, e.2.2.2)
  | 2 => (e.1, e.2.1, e.2.2.1 + k, e.2.2.2)
  | _ => (e.1, e.2.1, e.2.2.1, e.2.2.2 + k)
def shiftL (j : Nat) (k : Int) (al : List Tm) : List Tm := al.map fun p => (p.1, shiftE j k p.2)
theorem ex_shift (j : Nat) (hj : j < 4) (k : Int) (e : Ex) (i : Nat) (hi : i < 4) : ex (shiftE j k e) i = if i = j then ex e i + k else ex e i := by
  match j, hj, i, hi with
  | 0, _, 0, _ => rfl
  | 0, _, 1, _ => rfl
  | 0, _, 2, _ => rfl
  | 0, _, 3, _ => rfl
  | 1, _, 0, _ => rfl
  | 1, _, 1, _ => rfl
  | 1, _, 2, _ => rfl
  | 1, _, 3, _ => rfl
  | 2, _, 0, _ => rfl
  | 2, _, 1, _ => rfl
  | 2, _, 2, _ => rfl
  | 2, _, 3, _ => rfl
  | 3, _, 0, _ => rfl
  | 3, _, 1, _ => rfl
  | 3, _, 2, _ => rfl
  | 3, _, 3, _ => rfl
theorem cmpTo_same {e f e' f' : Ex} (h : ∀ i, i < 4 → (ex e i < ex f i ↔ ex e' i < ex f' i) ∧ (ex f i < ex e i ↔ ex f' i < ex e' i)) : ∀ k, k ≤ 4 → cmpTo e f k = cmpTo e' f' k := by
  intro k
  induction k with
  | zero => intro _; rfl
  | succ k ih =>
    intro hk
    have h1 := h k (by omega)
    have h2 := ih (by omega)
    unfold cmpTo
    rw [h2]
    by_cases a : ex e k < ex f k
    · rw [if_pos a, if_pos (h1.1.1 a)]
    · rw [if_neg a, if_neg (fun x => a (h1.1.2 x))]
      by_cases b : ex f k < ex e k
      · rw [if_pos b, if_pos (h1.2.1 b)]
      · rw [if_neg b, if_neg (fun x => b (h1.2.2 x))]
theorem cmp_shift (j : Nat) (hj : j < 4) (k : Int) (e f : Ex) : cmpE (shiftE j k e) (shiftE j k f) = cmpE e f := by
  refine (cmpTo_same fun i hi => ?_) 4 (Nat.le_refl _)
  rw [ex_shift j hj k e i hi, ex_shift j hj k f i hi]
  split <;> omega
theorem shift_canon {j : Nat} (hj : j < 4) {k : Int} (hk : 0 ≤ k) {al : List Tm} (h : Canon al) : Canon (shiftL j k al) := by
  unfold shiftL
  constructor
  · rw [List.pairwise_map]
    refine h.1.imp fun {p q} hpq => ?_
    show 0 < cmpE (shiftE j k p.2) (shiftE j k q.2)
    rw [cmp_shift j hj]
    exact hpq
  · intro p hp
    obtain ⟨q, hq, rfl⟩ := List.mem_map.1 hp
    refine ⟨(h.2 q hq).1, validE_iff.2 fun i hi => ?_⟩
    show 0 ≤ ex (shiftE j k q.2) i
    rw [ex_shift j hj k q.2 i hi]
    have := validE_iff.1 (h.2 q hq).2 i hi
    split <;> omega
theorem shift_shift (j : Nat) (hj : j < 4) (k l : Int) (e : Ex) : shiftE j l (shiftE j k e) = shiftE j (k + l) e := by
  match j, hj with
  | 0, _ => simp [shiftE, Int.add_assoc]
  | 1, _ => simp [shiftE, Int.add_assoc]
  | 2, _ => simp [shiftE, Int.add_assoc]
  | 3, _ => simp [shiftE, Int.add_assoc]
theorem shiftL_shiftL (j : Nat) (hj : j < 4) (k l : Int) (al : List Tm) : shiftL j l (shiftL j k al) = shiftL j (k + l) al := by
  unfold shiftL
  rw [List.map_map]
  refine List.map_congr_left fun p _ => ?_
  show (p.1, shiftE j l (shiftE j k p.2)) = _
  rw [shift_shift j hj]
theorem shiftL_zero (j : Nat) (hj : j < 4) (al : List Tm) : shiftL j 0 al = al := by
  unfold shiftL
  have : ∀ p : Tm, (p.1, shiftE j 0 p.2) = p := fun p => by
    match j, hj with
    | 0, _ => simp [shiftE]
    | 1, _ => simp [shiftE]
    | 2, _ => simp [shiftE]
    | 3, _ => simp [shiftE]
  simp [this]
theorem varL_eq (j : Nat) (hj : j < 4) : varL (j + 1) = [(1, unitE (j + 1))] := by
  unfold varL
  rw [if_pos ⟨by omega, by omega⟩]
theorem varL_canon (j : Nat) (hj : j < 4) : Canon (varL (j + 1)) := by
  rw [varL_eq j hj]
  refine ⟨by simp, fun p hp => ?_⟩
  rw [List.mem_singleton.1 hp]
  match j, hj with
  | 0, _ => exact ⟨by decide, by decide⟩
  | 1, _ => exact ⟨by decide, by decide⟩
  | 2, _ => exact ⟨by decide, by decide⟩
  | 3, _ => exact ⟨by decide, by decide⟩
theorem mul_var (j : Nat) (hj : j < 4) (a : List Tm) : prodL a (varL (j + 1)) = shiftL j 1 a := by
  rw [varL_eq j hj]
  unfold prodL shiftL
  induction a with
  | nil => rfl
  | cons p a ih =>
    rw [List.flatMap_cons, ih]
    show mulT p (1, unitE (j + 1)) :: _ = (p.1, shiftE j 1 p.2) :: _
    congr 1
    unfold mulT
    rw [Int.mul_one]
    congr 1
    match j, hj with
    | 0, _ => simp [addE, unitE, shiftE]
    | 1, _ => simp [addE, unitE, shiftE]
    | 2, _ => simp [addE, unitE, shiftE]
    | 3, _ => simp [addE, unitE, shiftE]
theorem mulp_var (j : Nat) (hj : j < 4) {a : List Tm} (h : Canon a) : nf (prodL (nf a) (nf (varL (j + 1)))) = shiftL j 1 a := by
  rw [nf_of_canon h, nf_of_canon (varL_canon j hj), mul_var j hj, nf_of_canon (shift_canon hj (by omega) h)]
/-- The terms of degree d. -/
def topL (j : Nat) (d : Int) (al : List Tm) : List Tm := al.filter fun p => ex p.2 j == d
theorem shift_coef (j : Nat) (hj : j < 4) (d : Int) (al : List Tm) : shiftL j d (coefL j d al) = topL j d al := by
  unfold shiftL coefL topL
  rw [List.map_map]
  have : ∀ p ∈ al.filter (fun p => ex p.2 j == d), ((fun p : Tm => (p.1, shiftE j d p.2)) ∘ fun p : Tm => (p.1, zeroE j p.2)) p = p := by
    intro p hp
    have h1 := (List.mem_filter.1 hp).2
    rw [beq_iff_eq] at h1
    show (p.1, shiftE j d (zeroE j p.2)) = p
    match j, hj, h1 with
    | 0, _, h1 => simp only [ex] at h1; simp [shiftE, zeroE, ← h1]
    | 1, _, h1 => simp only [ex] at h1; simp [shiftE, zeroE, ← h1]
    | 2, _, h1 => simp only [ex] at h1; simp [shiftE, zeroE, ← h1]
    | 3, _, h1 => simp only [ex] at h1; simp [shiftE, zeroE, ← h1]
  rw [List.map_congr_left this]
  simp
theorem cf_negL (al : List Tm) (e : Ex) : cf (negL al) e = -cf al e := by
  induction al with
  | nil => rfl
  | cons p al ih =>
    show cf ((-p.1, p.2) :: negL al) e = _
    rw [cf_cons, cf_cons, ih]
    simp only
    split <;> omega
theorem cf_split (q : Tm → Bool) (al : List Tm) (e : Ex) : cf al e = cf (al.filter q) e + cf (al.filter fun p => !q p) e := by
  induction al with
  | nil => rfl
  | cons p al ih =>
    rw [List.filter_cons, List.filter_cons, cf_cons, ih]
    cases q p with
    | true => simp [cf_cons]; omega
    | false => simp [cf_cons]; omega
theorem sub_top (j : Nat) (d : Int) {al : List Tm} (h : Canon al) : nf (al ++ negL (topL j d al)) = dropL j d al := by
  have hV : AllV al := fun p hp => (h.2 p hp).2
  have hT : AllV (topL j d al) := fun p hp => hV p (List.mem_filter.1 hp).1
  refine (eq_nf (dropL_canon h) fun e => ?_).symm
  rw [valids_V (hV.append hT.negL), cf_append, cf_negL, cf_split (fun p => ex p.2 j == d) al e]
  have h1 : (al.filter fun p => !(ex p.2 j == d)) = dropL j d al := by
    unfold dropL
    refine List.filter_congr fun p _ => ?_
    congr 1
    rw [Bool.eq_iff_iff, beq_iff_eq, beq_iff_eq]
    omega
  rw [h1]
  show _ = cf (topL j d al) e + _ + -cf (topL j d al) e
  omega
theorem degL_le {j E : Nat} {al : List Tm} (hj : j < 4) (h : AllE al E) : degL j al ≤ (E : Int) := by
  have h1 := degL_mem (j := j) (al := al) (d0 := -1)
  have e : al.foldl (fun d p => max (max d 0) (ex p.2 j)) (-1) = degL j al := rfl
  rw [e] at h1
  rcases h1 with h1 | h1 | ⟨p, hp, h1⟩
  · omega
  · omega
  · have := h p hp j hj
    omega
theorem AllE.coef {j E : Nat} {d : Int} {al : List Tm} (hj : j < 4) (h : AllE al E) : AllE (coefL j d al) E := fun p hp i hi => by
  obtain ⟨q, hq, rfl⟩ := List.mem_map.1 hp
  have h1 := h q (List.mem_filter.1 hq).1 i hi
  show (ex (zeroE j q.2) i).toNat ≤ E
  have h2 : ex (zeroE j q.2) i = 0 ∨ ex (zeroE j q.2) i = ex q.2 i := by
    match j, hj, i, hi with
    | 0, _, 0, _ => exact .inl rfl
    | 0, _, 1, _ => exact .inr rfl
    | 0, _, 2, _ => exact .inr rfl
    | 0, _, 3, _ => exact .inr rfl
    | 1, _, 0, _ => exact .inr rfl
    | 1, _, 1, _ => exact .inl rfl
    | 1, _, 2, _ => exact .inr rfl
    | 1, _, 3, _ => exact .inr rfl
    | 2, _, 0, _ => exact .inr rfl
    | 2, _, 1, _ => exact .inr rfl
    | 2, _, 2, _ => exact .inl rfl
    | 2, _, 3, _ => exact .inr rfl
    | 3, _, 0, _ => exact .inr rfl
    | 3, _, 1, _ => exact .inr rfl
    | 3, _, 2, _ => exact .inr rfl
    | 3, _, 3, _ => exact .inl rfl
  omega
theorem AllE.shift {j E F : Nat} {k : Int} {al : List Tm} (hj : j < 4) (h : AllE al E) (hk : k ≤ (F : Int)) : AllE (shiftL j k al) (E + F) := fun p hp i hi => by
  obtain ⟨q, hq, rfl⟩ := List.mem_map.1 hp
  have h1 := h q hq i hi
  show (ex (shiftE j k q.2) i).toNat ≤ E + F
  rw [ex_shift j hj k q.2 i hi]
  split <;> omega
theorem AllE.drop {j E : Nat} {d : Int} {al : List Tm} (h : AllE al E) : AllE (dropL j d al) E := fun p hp => h p (List.mem_filter.1 hp).1
theorem l1_shiftL (j : Nat) (k : Int) (al : List Tm) : l1 (shiftL j k al) = l1 al := by
  unfold shiftL
  induction al with
  | nil => rfl
  | cons p al ih => rw [List.map_cons, l1_cons, l1_cons, ih]
end Go.Proofs.YtnknidfpkmnncaaGreat
/- Plain laws: products of polynomials by their coefficients, the ring's laws. -/
namespace Go.Proofs.YtnknidfpkmnncaaGreat

def subE (e f : Ex) : Ex := (e.1 - f.1, e.2.1 - f.2.1, e.2.2.1 - f.2.2.1, e.2.2.2 - f.2.2.2)
theorem ex_subE (e f : Ex) (j : Nat) : ex (subE e f) j = ex e j - ex f j := by
  match j with
  | 0 => rfl
  | 1 => rfl
  | 2 => rfl
  | _ + 3 => rfl
theorem ex_ext {e f : Ex} (h0 : e.1 = f.1) (h1 : e.2.1 = f.2.1) (h2 : e.2.2.1 = f.2.2.1) (h3 : e.2.2.2 = f.2.2.2) : e = f := by
  obtain ⟨a, b, c, d⟩ := e
  obtain ⟨a', b', c', d'⟩ := f
  simp only at h0 h1 h2 h3
  rw [h0, h1, h2, h3]
theorem addE_subE (e f : Ex) : addE (subE e f) f = e := by
  apply ex_ext <;> simp [addE, subE]
theorem subE_addE (e f : Ex) : subE (addE e f) f = e := by
  apply ex_ext <;> simp [addE, subE] <;> omega
theorem addE_comm (e f : Ex) : addE e f = addE f e := by
  apply ex_ext <;> simp [addE] <;> omega
theorem addE_assoc (e f g : Ex) : addE (addE e f) g = addE e (addE f g) := by
  apply ex_ext <;> simp [addE] <;> omega
theorem addE_eq {e f g : Ex} : addE f g = e ↔ g = subE e f := by
  constructor
  · intro h
    rw [← h, addE_comm, subE_addE]
  · intro h
    rw [h, addE_comm, addE_subE]
theorem cmpE_add (e f g : Ex) : cmpE (addE e g) (addE f g) = cmpE e f := by
  refine (cmpTo_same fun i hi => ?_) 4 (Nat.le_refl _)
  rw [ex_addE, ex_addE]
  omega
theorem cmpE_addl (e f g : Ex) : cmpE (addE g e) (addE g f) = cmpE e f := by rw [addE_comm g e, addE_comm g f, cmpE_add]
theorem cmpE_add_lt {e e' f f' : Ex} (h : 0 < cmpE e e') (h2 : 0 ≤ cmpE f f') : 0 < cmpE (addE e f) (addE e' f') := by
  have h3 : cmpE (addE e f) (addE e' f) = cmpE e e' := cmpE_add ..
  have h4 : cmpE (addE e' f) (addE e' f') = cmpE f f' := cmpE_addl ..
  have h5 := cmpTo_trans (e := addE e f) (f := addE e' f) (g := addE e' f') 4 (by show 0 ≤ cmpE _ _; omega) (by show 0 ≤ cmpE _ _; omega)
  rcases Int.lt_or_le 0 (cmpE (addE e f) (addE e' f')) with h6 | h6
  · exact h6
  · have h7 := (h5.2 (by have := h5.1; show cmpE _ _ = 0; have h8 : 0 ≤ cmpE (addE e f) (addE e' f') := h5.1; omega)).1
    have h8 : cmpE (addE e f) (addE e' f) = 0 := h7
    omega
theorem cmpE_add_le {e e' f f' : Ex} (h : 0 ≤ cmpE e e') (h2 : 0 ≤ cmpE f f') : 0 ≤ cmpE (addE e f) (addE e' f') := by
  have h3 : cmpE (addE e f) (addE e' f) = cmpE e e' := cmpE_add ..
  have h4 : cmpE (addE e' f) (addE e' f') = cmpE f f' := cmpE_addl ..
  exact cmpE_trans (f := addE e' f) (by omega) (by omega)
theorem cmpE_self (e : Ex) : cmpE e e = 0 := cmpE_zero.2 rfl
theorem cmpE_pos_ne {e f : Ex} (h : 0 ≤ cmpE e f) (hne : e ≠ f) : 0 < cmpE e f := by
  rcases Int.lt_or_le 0 (cmpE e f) with h1 | h1
  · exact h1
  · exact absurd (cmpE_zero.1 (by omega)) hne

theorem cf_map (p : Tm) (b : List Tm) (e : Ex) : cf (b.map (mulT p)) e = p.1 * cf b (subE e p.2) := by
  induction b with
  | nil => simp [cf_nil]
  | cons q b ih =>
    rw [List.map_cons, cf_cons, cf_cons, ih, Int.mul_add]
    congr 1
    by_cases h : q.2 = subE e p.2
    · rw [if_pos h, if_pos (by show addE p.2 q.2 = e; exact addE_eq.2 h)]; rfl
    · rw [if_neg h, if_neg (by show ¬ addE p.2 q.2 = e; exact fun h1 => h (addE_eq.1 h1))]; simp
theorem cf_prodL_cons (p : Tm) (a b : List Tm) (e : Ex) : cf (prodL (p :: a) b) e = p.1 * cf b (subE e p.2) + cf (prodL a b) e := by
  have : prodL (p :: a) b = b.map (mulT p) ++ prodL a b := rfl
  rw [this, cf_append, cf_map]
theorem prodL_nil (b : List Tm) : prodL [] b = [] := rfl
theorem cf_prodL_nil (a : List Tm) (e : Ex) : cf (prodL a []) e = 0 := by
  induction a with
  | nil => rfl
  | cons p a ih => rw [cf_prodL_cons, ih, cf_nil]; omega
theorem subE_comm (e f g : Ex) : subE (subE e f) g = subE (subE e g) f := by
  apply ex_ext <;> simp [subE] <;> omega
theorem cf_prodL_cons_right (q : Tm) (a b : List Tm) (e : Ex) : cf (prodL a (q :: b)) e = q.1 * cf a (subE e q.2) + cf (prodL a b) e := by
  induction a generalizing e with
  | nil => simp [prodL_nil, cf_nil]
  | cons p a ih =>
    rw [cf_prodL_cons, cf_prodL_cons, ih, cf_cons, cf_cons, Int.mul_add, Int.mul_add]
    have h : p.1 * (if q.2 = subE e p.2 then q.1 else 0) = q.1 * (if p.2 = subE e q.2 then p.1 else 0) := by
      by_cases h1 : q.2 = subE e p.2
      · have h2 : p.2 = subE e q.2 := by
          have h3 := addE_eq.2 h1
          rw [addE_comm] at h3
          exact addE_eq.1 h3
        rw [if_pos h1, if_pos h2, Int.mul_comm]
      · have h2 : ¬ p.2 = subE e q.2 := fun h2 => h1 (by
          have h3 := addE_eq.2 h2
          rw [addE_comm] at h3
          exact addE_eq.1 h3)
        rw [if_neg h1, if_neg h2]; simp
    rw [h]
    omega
theorem cf_prodL_comm (a b : List Tm) (e : Ex) : cf (prodL a b) e = cf (prodL b a) e := by
  induction a generalizing e with
  | nil => rw [cf_prodL_nil]; rfl
  | cons p a ih => rw [cf_prodL_cons, cf_prodL_cons_right, ih]
theorem cf_prodL_right {b b' : List Tm} (h : ∀ e, cf b e = cf b' e) (a : List Tm) (e : Ex) : cf (prodL a b) e = cf (prodL a b') e := by
  induction a with
  | nil => rfl
  | cons p a ih => rw [cf_prodL_cons, cf_prodL_cons, ih, h]
theorem cf_prodL_left {a a' : List Tm} (h : ∀ e, cf a e = cf a' e) (b : List Tm) (e : Ex) : cf (prodL a b) e = cf (prodL a' b) e := by
  rw [cf_prodL_comm, cf_prodL_right h, cf_prodL_comm]
theorem cf_prodL_congr {a a' b b' : List Tm} (h : ∀ e, cf a e = cf a' e) (h2 : ∀ e, cf b e = cf b' e) (e : Ex) : cf (prodL a b) e = cf (prodL a' b') e := by
  rw [cf_prodL_left h, cf_prodL_right h2]
theorem cf_prodL_append (a b c : List Tm) (e : Ex) : cf (prodL a (b ++ c)) e = cf (prodL a b) e + cf (prodL a c) e := by
  induction a with
  | nil => rfl
  | cons p a ih => rw [cf_prodL_cons, cf_prodL_cons, cf_prodL_cons, ih, cf_append, Int.mul_add]; omega
theorem prodL_append (a b c : List Tm) : prodL (a ++ b) c = prodL a c ++ prodL b c := by
  unfold prodL; rw [List.flatMap_append]
theorem mulT_assoc (p q r : Tm) : mulT (mulT p q) r = mulT p (mulT q r) := by
  unfold mulT
  rw [Int.mul_assoc, addE_assoc]
theorem map_prodL (p : Tm) (b c : List Tm) : (prodL b c).map (mulT p) = prodL (b.map (mulT p)) c := by
  induction b with
  | nil => rfl
  | cons q b ih =>
    show (c.map (mulT q) ++ prodL b c).map (mulT p) = c.map (mulT (mulT p q)) ++ prodL (b.map (mulT p)) c
    rw [List.map_append, ih, List.map_map]
    congr 1
    refine List.map_congr_left fun r _ => ?_
    exact (mulT_assoc p q r).symm
theorem prodL_assoc (a b c : List Tm) : prodL (prodL a b) c = prodL a (prodL b c) := by
  induction a with
  | nil => rfl
  | cons p a ih =>
    show prodL (b.map (mulT p) ++ prodL a b) c = (prodL b c).map (mulT p) ++ prodL a (prodL b c)
    rw [prodL_append, ih, map_prodL]
theorem cf_nfV {a : List Tm} (h : AllV a) (e : Ex) : cf (nf a) e = cf a e := by rw [cf_nf, valids_V h]
theorem nf_congr {a b : List Tm} (ha : AllV a) (hb : AllV b) (h : ∀ e, cf a e = cf b e) : nf a = nf b :=
  eq_nf (nf_canon a) fun e => by rw [cf_nfV ha, valids_V hb, h]
theorem Canon.allV {a : List Tm} (h : Canon a) : AllV a := fun p hp => (h.2 p hp).2
theorem cf_negP {b : List Tm} (a : List Tm) (e : Ex) : cf (a ++ negL b) e = cf a e - cf b e := by rw [cf_append, cf_negL]; omega
/-- Normal forms of products. -/
def mulL (a b : List Tm) : List Tm := nf (prodL (nf a) (nf b))
theorem mulL_canon (a b : List Tm) : Canon (mulL a b) := nf_canon _
theorem cf_mulL {a b : List Tm} (ha : AllV a) (hb : AllV b) (e : Ex) : cf (mulL a b) e = cf (prodL a b) e := by
  unfold mulL
  rw [cf_nfV ((AllV.nf a).prodL (AllV.nf b)), cf_prodL_congr (cf_nfV ha) (cf_nfV hb)]
theorem AllV.mulL (a b : List Tm) : AllV (mulL a b) := (mulL_canon a b).allV
theorem mulL_comm {a b : List Tm} (ha : AllV a) (hb : AllV b) : mulL a b = mulL b a :=
  canon_unique (mulL_canon _ _) (mulL_canon _ _) fun e => by rw [cf_mulL ha hb, cf_mulL hb ha, cf_prodL_comm]
theorem mulL_assoc {a b c : List Tm} (ha : AllV a) (hb : AllV b) (hc : AllV c) : mulL (mulL a b) c = mulL a (mulL b c) :=
  canon_unique (mulL_canon _ _) (mulL_canon _ _) fun e => by
    rw [cf_mulL (AllV.mulL a b) hc, cf_mulL ha (AllV.mulL b c), cf_prodL_left (cf_mulL ha hb), cf_prodL_right (cf_mulL hb hc), prodL_assoc]
theorem addL_comm {a b : List Tm} (ha : AllV a) (hb : AllV b) : nf (a ++ b) = nf (b ++ a) :=
  nf_congr (ha.append hb) (hb.append ha) fun e => by rw [cf_append, cf_append]; omega
theorem mulL_add {a b c : List Tm} (ha : AllV a) (hb : AllV b) (hc : AllV c) : mulL a (nf (b ++ c)) = nf (mulL a b ++ mulL a c) :=
  canon_unique (mulL_canon _ _) (nf_canon _) fun e => by
    rw [cf_mulL ha (AllV.nf _), cf_nfV ((AllV.mulL a b).append (AllV.mulL a c)), cf_append, cf_mulL ha hb, cf_mulL ha hc, ← cf_prodL_append, cf_prodL_right (cf_nfV (hb.append hc))]
theorem sub_self {a : List Tm} (ha : AllV a) : nf (a ++ negL a) = [] := by
  have h : nf (a ++ negL a) = nf [] := nf_congr (ha.append ha.negL) (fun p hp => by cases hp) fun e => by rw [cf_negP, cf_nil]; omega
  rw [h]; rfl
end Go.Proofs.YtnknidfpkmnncaaGreat
