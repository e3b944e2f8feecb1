/- checkpoly.Compare. -/
import Derived.Test.YtnknidfpkmnncaaC8
namespace Go.Proofs.Ytnknidfpkmnncaa
open Go.RowKit

/-- The order of polynomials: term by term. -/
def cmpL : List Tm → List Tm → Int
  | [], [] => 0
  | [], _ :: _ => -1
  | _ :: _, [] => 1
  | p :: a, q :: b => if cmpE p.2 q.2 ≠ 0 then cmpE p.2 q.2 else if cmpI p.1 q.1 ≠ 0 then cmpI p.1 q.1 else cmpL a b
theorem cmpI_zero {a b : Int} : cmpI a b = 0 ↔ a = b := by
  unfold cmpI
  constructor
  · intro h
    split at h
    · omega
    · split at h
      · assumption
      · omega
  · rintro rfl
    rw [if_neg (by omega), if_pos rfl]
theorem cmpL_same (p : Tm) (a b : List Tm) : cmpL (p :: a) (p :: b) = cmpL a b := by
  simp [cmpL, cmpE_zero, cmpI_zero]
theorem cmpL_prefix (u a b : List Tm) : cmpL (u ++ a) (u ++ b) = cmpL a b := by
  induction u with
  | nil => rfl
  | cons p u ih => rw [List.cons_append, List.cons_append, cmpL_same, ih]
theorem cmpL_drop {a b : List Tm} {k : Nat} (h : a.take k = b.take k) : cmpL a b = cmpL (a.drop k) (b.drop k) := by
  have h1 := cmpL_prefix (a.take k) (a.drop k) (b.drop k)
  rw [List.take_append_drop] at h1
  rw [h, List.take_append_drop] at h1
  exact h1
theorem cmpL_at {a b : List Tm} {k : Nat} {p q : Tm} (h : a.take k = b.take k) (hp : a[k]? = some p) (hq : b[k]? = some q) :
    cmpL a b = if cmpE p.2 q.2 ≠ 0 then cmpE p.2 q.2 else if cmpI p.1 q.1 ≠ 0 then cmpI p.1 q.1 else cmpL (a.drop (k + 1)) (b.drop (k + 1)) := by
  obtain ⟨h1, h2⟩ := List.getElem?_eq_some_iff.1 hp
  obtain ⟨h3, h4⟩ := List.getElem?_eq_some_iff.1 hq
  rw [cmpL_drop h, List.drop_eq_getElem_cons h1, List.drop_eq_getElem_cons h3, h2, h4]
  rfl
theorem take_step {a b : List Tm} {k : Nat} {p q : Tm} (h : a.take k = b.take k) (hp : a[k]? = some p) (hq : b[k]? = some q) (he : cmpE p.2 q.2 = 0) (hc : cmpI p.1 q.1 = 0) : a.take (k + 1) = b.take (k + 1) := by
  obtain ⟨h1, h2⟩ := List.getElem?_eq_some_iff.1 hp
  obtain ⟨h3, h4⟩ := List.getElem?_eq_some_iff.1 hq
  rw [List.take_succ_eq_append_getElem h1, List.take_succ_eq_append_getElem h3, h2, h4, h, Prod.ext (cmpI_zero.1 hc) (cmpE_zero.1 he)]
theorem cmpL_end {a b : List Tm} {k : Nat} (h : a.take k = b.take k) (hk : a.length ≤ k ∨ b.length ≤ k) : cmpL a b = if a.length < b.length then -1 else if b.length < a.length then 1 else 0 := by
  rw [cmpL_drop h]
  rcases hk with hk | hk
  · rw [List.drop_of_length_le hk]
    have hl := congrArg List.length h
    rw [List.length_take, List.length_take] at hl
    cases hb : b.drop k with
    | nil =>
      have := congrArg List.length hb
      rw [List.length_drop, List.length_nil] at this
      rw [if_neg (by omega), if_neg (by omega)]
      rfl
    | cons q r =>
      have := congrArg List.length hb
      rw [List.length_drop, List.length_cons] at this
      rw [if_pos (by omega)]
      rfl
  · rw [List.drop_of_length_le hk]
    have hl := congrArg List.length h
    rw [List.length_take, List.length_take] at hl
    cases hb : a.drop k with
    | nil =>
      have := congrArg List.length hb
      rw [List.length_drop, List.length_nil] at this
      rw [if_neg (by omega), if_neg (by omega)]
      rfl
    | cons q r =>
      have := congrArg List.length hb
      rw [List.length_drop, List.length_cons] at this
      rw [if_neg (by omega), if_pos (by omega)]
      rfl

/-- Four cells of exponents. -/
abbrev Held4 (w' : World) (b off : Nat) (e : Ex) : Prop :=
  w'.cell? ⟨b, off + 2, none⟩ = some (.int .i64 e.1) ∧ w'.cell? ⟨b, off + 3, none⟩ = some (.int .i64 e.2.1) ∧ w'.cell? ⟨b, off + 4, none⟩ = some (.int .i64 e.2.2.1) ∧ w'.cell? ⟨b, off + 5, none⟩ = some (.int .i64 e.2.2.2)
theorem held4_below {w w' : World} {b off : Nat} {e : Ex} (h : Held4 w b off e) (hb : Below w.heap.size w w') (hlt : b < w.heap.size) : Held4 w' b off e := by
  obtain ⟨hc, _⟩ := bcell hb
  unfold Held4
  rw [hc _ _ hlt, hc _ _ hlt, hc _ _ hlt, hc _ _ hlt]
  exact h
/-- Two cells of a coefficient. -/
abbrev Held2 (w' : World) (b off : Nat) (t : TV) : Prop :=
  w'.cell? ⟨b, off, none⟩ = some (.bool t.neg) ∧ w'.cell? ⟨b, off + 1, none⟩ = some (.slice t.A t.n t.c)
theorem held2_below {w w' : World} {b off : Nat} {t : TV} (h : Held2 w b off t) (hb : Below w.heap.size w w') (hlt : b < w.heap.size) : Held2 w' b off t := by
  obtain ⟨hc, _⟩ := bcell hb
  unfold Held2
  rw [hc _ _ hlt, hc _ _ hlt]
  exact h
theorem CoefC.eq {B : Nat} {w : World} {t : TV} {z : Int} (h : CoefC B w t z) : iv t.neg (val (digs z.natAbs)) = z := by
  rw [val_digs, h.1]
  unfold iv
  by_cases hz : z < 0
  · simp [hz]; omega
  · simp [hz]; omega
/-- A polynomial's term k: its cells and its coefficient, as long as only new blocks come. -/
theorem PolyC.term {B : Nat} {w : World} {A : Option Addr} {n c : Nat} {al : List Tm} (h : PolyC B w A n c al) (hn : 0 < n) : ∃ b off, A = some ⟨b, off, none⟩ ∧ b < w.heap.size ∧
    ∀ k, k < n → ∃ t p, al[k]? = some p ∧ t.e = p.2 ∧ CoefC B w t p.1 ∧ Held2 w b (off + k * 6) t ∧ Held4 w b (off + k * 6) t.e := by
  obtain ⟨L, h⟩ := h
  obtain ⟨b, off, hA, hb, hc⟩ := h.row.six hn
  refine ⟨b, off, hA, hb, fun k hk => ?_⟩
  obtain ⟨t, ht⟩ : ∃ t, L[k]? = some t := ⟨_, List.getElem?_eq_getElem (by rw [h.lenL]; exact hk)⟩
  obtain ⟨p, h1, h2, h3⟩ := h.reps.at_ ht
  obtain ⟨c0, c1, c2, c3, c4, c5⟩ := hc k t ht
  exact ⟨t, p, h1, h2, h3, ⟨c0, c1⟩, ⟨c2, c3, c4, c5⟩⟩

set_option maxRecDepth 100000 in
set_option maxHeartbeats 4000000 in
theorem compare_any (B : Nat) (A A2 : Option Addr) (n c n2 c2 : Nat) (al bl : List Tm) (w : World) (hB : B ≤ w.heap.size) (h : PolyW B w A n c al) (h2 : PolyW B w A2 n2 c2 bl) (hn : n < sortLim) (hn2 : n2 < sortLim) (hl : l1 al < big) (hl2 : l1 bl < big) :
    Calls Try.prog 16 #[.slice A n c, .slice A2 n2 c2] w (ValP (.int .i64 (cmpL (nf al) (nf bl))) w) := by
  have HL2 := Lib.hid hl2
  have hnm : n ≤ 1073741824 := by unfold sortLim at hn; omega
  have hnm2 : n2 ≤ 1073741824 := by unfold sortLim at hn2; omega
  go_enter Try.func16, Try.ntmps16
  go_wp2_with fail
  refine (normalp_any B A n c al _ hB h hn hl).mono ?_
  rintro e w1 ⟨A', n', c', rfl, h1, hb1⟩
  go_wp2_with fail
  refine (normalp_any B A2 n2 c2 bl _ (by have := hb1.size; omega) (h2.below hb1 (Nat.le_refl _)) hn2 HL2.out).mono ?_
  rintro e w2 ⟨A2', n2', c2', rfl, h22, hb2⟩
  have h12 := h1.below hb2 (Nat.le_refl _)
  have hbw := hb1.trans (hb2.mono hb1.size)
  have hl1 : n' ≤ n := by have h3 := h12.len; have h4 := length_nf al; have h5 := h.len; omega
  have hl22 : n2' ≤ n2 := by have h3 := h22.len; have h4 := length_nf bl; have h5 := h2.len; omega
  have hc1 := h12.cap
  have hc2 := h22.cap
  generalize nf al = a at *
  generalize nf bl = b at *
  clear h h2 h1 hb1 hb2 HL2 hl hl2
  have HA := Lib.hid h12.len
  have HB := Lib.hid h22.len
  rcases Nat.lt_or_ge n2' n' with hlt | hge
  · go_wp2
    go_loopw [19] (fun i wr => ∃ k : Nat, k ≤ n2' ∧ i = .int .i64 k ∧ Below w2.heap.size w2 wr ∧ Hid (a.take k = b.take k)) (fun i _ => n2' - (intOf i).toNat)
    case atStart => exact ⟨0, Nat.zero_le _, rfl, Below.refl _ _, Lib.hid (by simp)⟩
    case round =>
      obtain ⟨k, hk, rfl, hb, HV⟩ := hrel
      by_cases hkm : k < n2'
      · have i0 : (0 : Int) ≤ (k : Int) := by omega
        have i1 : (k : Int) < (n' : Int) := by omega
        have i2 : (k : Int) < (n2' : Int) := by omega
        obtain ⟨b1, off1, rfl, hs1, HT1⟩ := h12.term (by omega)
        obtain ⟨b2, off2, rfl, hs2, HT2⟩ := h22.term (by omega)
        obtain ⟨t, p, hp, hte, hcf, hh2, hh4⟩ := HT1 k (by omega)
        obtain ⟨s, q, hq, hse, hcf2, hg2, hg4⟩ := HT2 k (by omega)
        have h4 : Held4 wr b1 (off1 + k * 6) t.e ∧ Held4 wr b2 (off2 + k * 6) s.e := ⟨held4_below hh4 hb hs1, held4_below hg4 hb hs2⟩
        have h2' : Held2 wr b1 (off1 + k * 6) t ∧ Held2 wr b2 (off2 + k * 6) s := ⟨held2_below hh2 hb hs1, held2_below hg2 hb hs2⟩
        have HTE := Lib.hid hte
        have HSE := Lib.hid hse
        clear hte hse
        have HE := Lib.hid (cmpL_at HV.out hp hq)
        have HS := Lib.hid (fun he hc => take_step HV.out hp hq he hc)
        have HC1 := Lib.hid hcf
        have HC2 := Lib.hid hcf2
        clear HT1 HT2 hcf hcf2 hh2 hh4 hg2 hg4 hp hq
        have H2 := Lib.hid h2'
        clear h2'
        obtain ⟨z, hz⟩ : ∃ z, cmpE t.e s.e = z := ⟨_, rfl⟩
        have HZ := Lib.hid hz
        clear hz
        have HBF := Lib.hid (show ∀ w, Calls Try.prog 47 #[.agg #[.int .i64 t.e.1, .int .i64 t.e.2.1, .int .i64 t.e.2.2.1, .int .i64 t.e.2.2.2], .agg #[.int .i64 s.e.1, .int .i64 s.e.2.1, .int .i64 s.e.2.2.1, .int .i64 s.e.2.2.2]] w (ValP (.int .i64 z) w) from fun w => by have h9 := before_any t.e s.e w; rw [HZ.out] at h9; exact h9)
        have hS0 : Held4 wr b1 (off1 + k * 6) t.e ∧ Held4 wr b2 (off2 + k * 6) s.e := h4
        clear h4
        obtain ⟨y, hy⟩ : ∃ y, cmpI p.1 q.1 = y := ⟨_, rfl⟩
        have HY := Lib.hid hy
        clear hy
        go_wp2
        go_region_held3 (fun w' => Held4 w' b1 (off1 + k * 6) t.e ∧ Held4 w' b2 (off2 + k * 6) s.e) (first | exact hS0 | exact hS1 | go_keep)
          (first
            | (go_at_call 47; ((with_reducible refine (HBF.out _).mono ?_); rintro e w1 ⟨rfl, hbw1⟩; have hS1 := And.intro (held4_below (w := wr.drew) hS0.1 hbw1 (Nat.lt_of_lt_of_le hs1 hb.size)) (held4_below (w := wr.drew) hS0.2 hbw1 (Nat.lt_of_lt_of_le hs2 hb.size)))))
        have hb1 := hb.drew.trans (hbw1.mono hb.size)
        have hS2 := And.intro (held2_below (w := wr.drew) H2.out.1 hbw1 (Nat.lt_of_lt_of_le hs1 hb.size)) (held2_below (w := wr.drew) H2.out.2 hbw1 (Nat.lt_of_lt_of_le hs2 hb.size))
        clear hS0 hS1
        rcases Decidable.em (z = 0) with hz0 | hz0
        · subst hz0
          go_wp2
          have hdx := (HC1.out.2.below hb1 (Nat.le_refl _)).drew
          have hdy := (HC2.out.2.below hb1 (Nat.le_refl _)).drew
          have HN1 := Lib.hid (show cmpI (iv t.neg (val (digs p.1.natAbs))) (iv s.neg (val (digs q.1.natAbs))) = y from by rw [CoefC.eq HC1.out, CoefC.eq HC2.out]; exact HY.out)
          go_region_held3 (fun w' => Held2 w' b1 (off1 + k * 6) t ∧ Held2 w' b2 (off2 + k * 6) s) (first | exact hS2 | exact hS3 | go_keep)
            (first
              | (go_at_call 26; ((with_reducible refine (icmp_any B t.neg s.neg t.A s.A t.n t.c s.n s.c _ _ _ hdx hdy).mono ?_); rw [HN1.out]; rintro e w3 ⟨rfl, hbw3⟩; have hS3 := And.intro (held2_below (w := w1.drew) hS2.1 hbw3 (Nat.lt_of_lt_of_le hs1 hb1.size)) (held2_below (w := w1.drew) hS2.2 hbw3 (Nat.lt_of_lt_of_le hs2 hb1.size)))))
          have hb3 := hb1.drew.trans (hbw3.mono hb1.size)
          clear hS2 hS3 hdx hdy
          rcases Decidable.em (y = 0) with hy0 | hy0
          · subst hy0
            go_wp2
            go_roundw
            case rel => exact ⟨k + 1, by omega, by go_num, hb3, Lib.hid (HS.out (by rw [← HTE.out, ← HSE.out]; exact HZ.out) HY.out)⟩
            case measure => simp [intOf]; omega
          · go_wp2
            go_ret
            refine ⟨?_, hbw.trans (hb3.mono hbw.size)⟩
            rw [HE.out, ← HTE.out, ← HSE.out, HZ.out, HY.out, if_neg (by simp), if_pos hy0] <;> rfl
        · go_wp2
          go_ret
          refine ⟨?_, hbw.trans (hb1.mono hbw.size)⟩
          rw [HE.out, ← HTE.out, ← HSE.out, HZ.out, if_pos hz0] <;> rfl
      · have HF := Lib.hid (cmpL_end HV.out (by rw [HA.out, HB.out]; omega))
        clear HV
        rcases Nat.lt_trichotomy n' n2' with h3 | h3 | h3
        · go_wp2
          go_ret
          refine ⟨?_, hbw.trans (hb.mono hbw.size)⟩
          rw [HF.out, HA.out, HB.out, if_pos h3] <;> rfl
        · subst h3
          go_wp2
          go_ret
          refine ⟨?_, hbw.trans (hb.mono hbw.size)⟩
          rw [HF.out, HA.out, HB.out, if_neg (by omega), if_neg (by omega)] <;> rfl
        · go_wp2
          go_ret
          refine ⟨?_, hbw.trans (hb.mono hbw.size)⟩
          rw [HF.out, HA.out, HB.out, if_neg (by omega), if_pos h3] <;> rfl
  · go_wp2
    go_loopw [19] (fun i wr => ∃ k : Nat, k ≤ n' ∧ i = .int .i64 k ∧ Below w2.heap.size w2 wr ∧ Hid (a.take k = b.take k)) (fun i _ => n' - (intOf i).toNat)
    case atStart => exact ⟨0, Nat.zero_le _, rfl, Below.refl _ _, Lib.hid (by simp)⟩
    case round =>
      obtain ⟨k, hk, rfl, hb, HV⟩ := hrel
      by_cases hkm : k < n'
      · have i0 : (0 : Int) ≤ (k : Int) := by omega
        have i1 : (k : Int) < (n' : Int) := by omega
        have i2 : (k : Int) < (n2' : Int) := by omega
        obtain ⟨b1, off1, rfl, hs1, HT1⟩ := h12.term (by omega)
        obtain ⟨b2, off2, rfl, hs2, HT2⟩ := h22.term (by omega)
        obtain ⟨t, p, hp, hte, hcf, hh2, hh4⟩ := HT1 k (by omega)
        obtain ⟨s, q, hq, hse, hcf2, hg2, hg4⟩ := HT2 k (by omega)
        have h4 : Held4 wr b1 (off1 + k * 6) t.e ∧ Held4 wr b2 (off2 + k * 6) s.e := ⟨held4_below hh4 hb hs1, held4_below hg4 hb hs2⟩
        have h2' : Held2 wr b1 (off1 + k * 6) t ∧ Held2 wr b2 (off2 + k * 6) s := ⟨held2_below hh2 hb hs1, held2_below hg2 hb hs2⟩
        have HTE := Lib.hid hte
        have HSE := Lib.hid hse
        clear hte hse
        have HE := Lib.hid (cmpL_at HV.out hp hq)
        have HS := Lib.hid (fun he hc => take_step HV.out hp hq he hc)
        have HC1 := Lib.hid hcf
        have HC2 := Lib.hid hcf2
        clear HT1 HT2 hcf hcf2 hh2 hh4 hg2 hg4 hp hq
        have H2 := Lib.hid h2'
        clear h2'
        obtain ⟨z, hz⟩ : ∃ z, cmpE t.e s.e = z := ⟨_, rfl⟩
        have HZ := Lib.hid hz
        clear hz
        have HBF := Lib.hid (show ∀ w, Calls Try.prog 47 #[.agg #[.int .i64 t.e.1, .int .i64 t.e.2.1, .int .i64 t.e.2.2.1, .int .i64 t.e.2.2.2], .agg #[.int .i64 s.e.1, .int .i64 s.e.2.1, .int .i64 s.e.2.2.1, .int .i64 s.e.2.2.2]] w (ValP (.int .i64 z) w) from fun w => by have h9 := before_any t.e s.e w; rw [HZ.out] at h9; exact h9)
        have hS0 : Held4 wr b1 (off1 + k * 6) t.e ∧ Held4 wr b2 (off2 + k * 6) s.e := h4
        clear h4
        obtain ⟨y, hy⟩ : ∃ y, cmpI p.1 q.1 = y := ⟨_, rfl⟩
        have HY := Lib.hid hy
        clear hy
        go_wp2
        go_region_held3 (fun w' => Held4 w' b1 (off1 + k * 6) t.e ∧ Held4 w' b2 (off2 + k * 6) s.e) (first | exact hS0 | exact hS1 | go_keep)
          (first
            | (go_at_call 47; ((with_reducible refine (HBF.out _).mono ?_); rintro e w1 ⟨rfl, hbw1⟩; have hS1 := And.intro (held4_below (w := wr.drew) hS0.1 hbw1 (Nat.lt_of_lt_of_le hs1 hb.size)) (held4_below (w := wr.drew) hS0.2 hbw1 (Nat.lt_of_lt_of_le hs2 hb.size)))))
        have hb1 := hb.drew.trans (hbw1.mono hb.size)
        have hS2 := And.intro (held2_below (w := wr.drew) H2.out.1 hbw1 (Nat.lt_of_lt_of_le hs1 hb.size)) (held2_below (w := wr.drew) H2.out.2 hbw1 (Nat.lt_of_lt_of_le hs2 hb.size))
        clear hS0 hS1
        rcases Decidable.em (z = 0) with hz0 | hz0
        · subst hz0
          go_wp2
          have hdx := (HC1.out.2.below hb1 (Nat.le_refl _)).drew
          have hdy := (HC2.out.2.below hb1 (Nat.le_refl _)).drew
          have HN1 := Lib.hid (show cmpI (iv t.neg (val (digs p.1.natAbs))) (iv s.neg (val (digs q.1.natAbs))) = y from by rw [CoefC.eq HC1.out, CoefC.eq HC2.out]; exact HY.out)
          go_region_held3 (fun w' => Held2 w' b1 (off1 + k * 6) t ∧ Held2 w' b2 (off2 + k * 6) s) (first | exact hS2 | exact hS3 | go_keep)
            (first
              | (go_at_call 26; ((with_reducible refine (icmp_any B t.neg s.neg t.A s.A t.n t.c s.n s.c _ _ _ hdx hdy).mono ?_); rw [HN1.out]; rintro e w3 ⟨rfl, hbw3⟩; have hS3 := And.intro (held2_below (w := w1.drew) hS2.1 hbw3 (Nat.lt_of_lt_of_le hs1 hb1.size)) (held2_below (w := w1.drew) hS2.2 hbw3 (Nat.lt_of_lt_of_le hs2 hb1.size)))))
          have hb3 := hb1.drew.trans (hbw3.mono hb1.size)
          clear hS2 hS3 hdx hdy
          rcases Decidable.em (y = 0) with hy0 | hy0
          · subst hy0
            go_wp2
            go_roundw
            case rel => exact ⟨k + 1, by omega, by go_num, hb3, Lib.hid (HS.out (by rw [← HTE.out, ← HSE.out]; exact HZ.out) HY.out)⟩
            case measure => simp [intOf]; omega
          · go_wp2
            go_ret
            refine ⟨?_, hbw.trans (hb3.mono hbw.size)⟩
            rw [HE.out, ← HTE.out, ← HSE.out, HZ.out, HY.out, if_neg (by simp), if_pos hy0] <;> rfl
        · go_wp2
          go_ret
          refine ⟨?_, hbw.trans (hb1.mono hbw.size)⟩
          rw [HE.out, ← HTE.out, ← HSE.out, HZ.out, if_pos hz0] <;> rfl
      · have HF := Lib.hid (cmpL_end HV.out (by rw [HA.out, HB.out]; omega))
        clear HV
        rcases Nat.lt_trichotomy n' n2' with h3 | h3 | h3
        · go_wp2
          go_ret
          refine ⟨?_, hbw.trans (hb.mono hbw.size)⟩
          rw [HF.out, HA.out, HB.out, if_pos h3] <;> rfl
        · subst h3
          go_wp2
          go_ret
          refine ⟨?_, hbw.trans (hb.mono hbw.size)⟩
          rw [HF.out, HA.out, HB.out, if_neg (by omega), if_neg (by omega)] <;> rfl
        · exact absurd h3 (by omega)
end Go.Proofs.Ytnknidfpkmnncaa
