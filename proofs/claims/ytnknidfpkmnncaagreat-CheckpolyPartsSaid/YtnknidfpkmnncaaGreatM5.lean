/- V2, U1, U2, U3, U4, U5, U6, U7. -/
import Derived.Test.YtnknidfpkmnncaaGreatM4
import Derived.Test.YtnknidfpkmnncaaGreatM1
import Derived.Lib.Strings
import Derived.Lib.Slices
import Derived.Lib.Small
import Derived.Lib.Walk
import Derived.Lib.BitFns
import Derived.Laws.CopyOwn
import Derived.Outline
import Derived.Laws.Bits64b
import Derived.WalkMore
/- Plain laws: division of polynomials, term by term. -/
namespace Go.Proofs.YtnknidfpkmnncaaGreat

theorem cf_mem {l : List Tm} (h : Canon l) {p : Tm} (hp : p ∈ l) : cf l p.2 = p.1 := by
  induction l with
  | nil => cases hp
  | cons q l ih =>
    rcases List.mem_cons.1 hp with rfl | hp
    · exact h.head
    · have h1 := (List.pairwise_cons.1 h.1).1 p hp
      rw [cf_cons, if_neg (fun e => cmpE_ne h1 e.symm), ih h.tail hp]
      omega
theorem canon_le {p : Tm} {l : List Tm} (h : Canon (p :: l)) {q : Tm} (hq : q ∈ p :: l) : 0 ≤ cmpE p.2 q.2 := by
  rcases List.mem_cons.1 hq with rfl | hq
  · rw [cmpE_self]; omega
  · have := (List.pairwise_cons.1 h.1).1 q hq
    omega
theorem cf_above {p : Tm} {l : List Tm} (h : Canon (p :: l)) {e : Ex} (he : 0 < cmpE e p.2) : cf (p :: l) e = 0 :=
  cf_far fun q hq hqe => by
    have h1 := canon_le h hq
    rw [hqe, cmpE_neg] at h1
    omega
theorem head_of_cf {l : List Tm} (h : Canon l) {e0 : Ex} (h0 : cf l e0 ≠ 0) (hz : ∀ e, 0 < cmpE e e0 → cf l e = 0) : ∃ l', l = (cf l e0, e0) :: l' := by
  match l, h with
  | [], _ => exact absurd rfl h0
  | p :: l', h =>
    by_cases he : p.2 = e0
    · refine ⟨l', ?_⟩
      rw [← he, h.head]
    · exfalso
      rcases Int.lt_or_le 0 (cmpE p.2 e0) with h1 | h1
      · have h2 := hz p.2 h1
        rw [h.head] at h2
        exact (h.2 p (List.mem_cons_self ..)).1 h2
      · have h2 : 0 < cmpE e0 p.2 := by
          refine cmpE_pos_ne ?_ (fun e => he e.symm)
          rw [cmpE_neg]; omega
        exact h0 (cf_above h h2)
/-- The leading term of a product. -/
theorem prod_above {q t : Tm} {h' d' : List Tm} (ch : Canon (q :: h')) (cd : Canon (t :: d')) {e : Ex} (he : 0 < cmpE e (addE q.2 t.2)) : cf (prodL (q :: h') (t :: d')) e = 0 :=
  cf_far fun r hr hre => by
    obtain ⟨a, ha, b, hb, rfl⟩ := mem_prodL hr
    have h1 : 0 ≤ cmpE (addE q.2 t.2) (addE a.2 b.2) := cmpE_add_le (canon_le ch ha) (canon_le cd hb)
    have h2 : addE a.2 b.2 = e := hre
    rw [h2, cmpE_neg] at h1
    omega
theorem prod_top {q t : Tm} {h' d' : List Tm} (ch : Canon (q :: h')) (cd : Canon (t :: d')) : cf (prodL (q :: h') (t :: d')) (addE q.2 t.2) = q.1 * t.1 := by
  rw [cf_prodL_cons]
  have h1 : subE (addE q.2 t.2) q.2 = t.2 := by rw [addE_comm, subE_addE]
  rw [h1, cd.head]
  have h2 : cf (prodL h' (t :: d')) (addE q.2 t.2) = 0 := cf_far fun r hr hre => by
    obtain ⟨a, ha, b, hb, rfl⟩ := mem_prodL hr
    have h3 : 0 < cmpE (addE q.2 t.2) (addE a.2 b.2) := cmpE_add_lt ((List.pairwise_cons.1 ch.1).1 a ha) (canon_le cd hb)
    have h4 : addE a.2 b.2 = addE q.2 t.2 := hre
    rw [h4, cmpE_self] at h3
    omega
  rw [h2]; omega
theorem prod_head {q t : Tm} {h' d' : List Tm} (ch : Canon (q :: h')) (cd : Canon (t :: d')) : ∃ l', nf (prodL (q :: h') (t :: d')) = mulT q t :: l' := by
  have hV : AllV (prodL (q :: h') (t :: d')) := ch.allV.prodL cd.allV
  have hq := (ch.2 q (List.mem_cons_self ..)).1
  have ht := (cd.2 t (List.mem_cons_self ..)).1
  obtain ⟨l', h⟩ := head_of_cf (nf_canon (prodL (q :: h') (t :: d'))) (e0 := addE q.2 t.2) (by rw [cf_nfV hV, prod_top ch cd]; exact Int.mul_ne_zero hq ht) fun e he => by rw [cf_nfV hV, prod_above ch cd he]
  rw [cf_nfV hV, prod_top ch cd] at h
  exact ⟨l', h⟩

/-- Whether t divides p, the quotient, and what is left. -/
def okQ (p t : Tm) : Bool := decide (t.1 ∣ p.1) && validE (subE p.2 t.2)
def exQ (p t : Tm) : Tm := (p.1.tdiv t.1, subE p.2 t.2)
def exNext (rest d : List Tm) (q : Tm) : List Tm := nf (rest ++ negL (mulL [q] d))
/-- The bound of the coefficients in a division: numbers of at most 2^29 digits. -/
@[irreducible] def mid : Nat := bp 536870912
structure ExBd (rest d : List Tm) : Prop where
  len : rest.length + d.length ≤ 536870912
  l1 : l1 rest * (2 + l1 d) < mid
  e : AllE rest 1073741824
  de : AllE d 1073741824
/-- The division of rest by d, whose first term is t, ends with r in at most N rounds, all numbers within bounds. -/
def ExOk (d : List Tm) (t : Tm) : Nat → List Tm → List Tm → Option (List Tm) → Prop
  | _, [], out, r => r = some out ∧ out.length < 1073741824 ∧ l1 out < big
  | 0, _ :: _, _, _ => False
  | N + 1, p :: rest, out, r => ExBd (p :: rest) d ∧ out.length < 1073741823 ∧ (if okQ p t then ExOk d t N (exNext (p :: rest) d (exQ p t)) (out ++ [exQ p t]) r else r = none)

theorem mid_le_big : mid ≤ big := by
  unfold mid big
  exact bp_mono (by omega)
theorem exBd_of {rest d : List Tm} {R D LR LD E F : Nat} (h1 : l1 rest ≤ R) (h2 : l1 d ≤ D) (h3 : rest.length ≤ LR) (h4 : d.length ≤ LD) (h5 : AllE rest E) (h6 : AllE d F) (h7 : LR + LD ≤ 536870912) (h8 : R * (2 + D) < mid) (h9 : E ≤ 1073741824) (h10 : F ≤ 1073741824) : ExBd rest d :=
  ⟨by omega, Nat.lt_of_le_of_lt (Nat.mul_le_mul h1 (by omega)) h8, h5.mono h9, h6.mono h10⟩

theorem exNext_cf {rest d : List Tm} {q : Tm} (hr : AllV rest) (hq : validE q.2 = true) (hd : AllV d) (e : Ex) : cf (exNext rest d q) e = cf rest e - q.1 * cf d (subE e q.2) := by
  unfold exNext
  have hV : AllV [q] := fun p hp => by rw [List.mem_singleton] at hp; rw [hp]; exact hq
  rw [cf_nfV (hr.append (AllV.mulL _ _).negL), cf_negP, cf_mulL hV hd, cf_prodL_cons, prodL_nil, cf_nil]
  omega
theorem exNext_canon (rest d : List Tm) (q : Tm) : Canon (exNext rest d q) := nf_canon _

theorem exOk_exact {t : Tm} {d' : List Tm} (cd : Canon (t :: d')) {E F LD R : Nat} (hd : AllE (t :: d') F) (hD : (t :: d').length ≤ LD) (hE : E + F ≤ 1073741824) (hR : R * l1 (t :: d') * (2 + l1 (t :: d')) < mid) :
    ∀ (h : List Tm), Canon h → AllE h E → l1 h ≤ R → ∀ (LH : Nat), h.length ≤ LH → LH * LD + LD ≤ 536870912 → ∀ out : List Tm, out.length + h.length < 1073741824 → l1 out + l1 h < big →
      ExOk (t :: d') t h.length (nf (prodL h (t :: d'))) out (some (out ++ h)) := by
  intro h
  induction h with
  | nil =>
    intro _ _ _ _ _ _ out h1 h2
    have h3 : nf (prodL [] (t :: d')) = [] := rfl
    rw [h3]
    show some (out ++ []) = some out ∧ _
    rw [List.append_nil]
    simp only [List.length_nil, l1_nil] at h1 h2
    exact ⟨rfl, by omega, by omega⟩
  | cons q h' ih =>
    intro ch hE1 hl1 LH hLH hLL out h1 h2
    obtain ⟨l', hl⟩ := prod_head ch cd
    have hq := ch.2 q (List.mem_cons_self ..)
    have ht := cd.2 t (List.mem_cons_self ..)
    have hQ : exQ (mulT q t) t = q := by
      show ((q.1 * t.1).tdiv t.1, subE (addE q.2 t.2) t.2) = q
      rw [Int.mul_tdiv_cancel _ ht.1, subE_addE]
    have hok : okQ (mulT q t) t = true := by
      unfold okQ
      rw [Bool.and_eq_true, decide_eq_true_eq]
      refine ⟨Int.dvd_mul_left _ _, ?_⟩
      show validE (subE (addE q.2 t.2) t.2) = true
      rw [subE_addE]; exact hq.2
    have hB : ExBd (nf (prodL (q :: h') (t :: d'))) (t :: d') := by
      refine exBd_of (R := R * l1 (t :: d')) (LR := LH * LD) (Nat.le_trans (l1_nf _) ?_) (Nat.le_refl _) (Nat.le_trans (length_nf _) ?_) hD (hE1.prodL hd).nf hd hLL hR hE (by omega)
      · rw [l1_prodL]; exact Nat.mul_le_mul_right _ hl1
      · rw [length_prodL]; exact Nat.mul_le_mul hLH hD
    have hN : exNext (nf (prodL (q :: h') (t :: d'))) (t :: d') q = nf (prodL h' (t :: d')) := by
      refine canon_unique (exNext_canon _ _ _) (nf_canon _) fun e => ?_
      rw [exNext_cf (AllV.nf _) hq.2 cd.allV, cf_nfV (ch.allV.prodL cd.allV), cf_prodL_cons, cf_nfV (ch.tail.allV.prodL cd.allV)]
      omega
    rw [hl] at hB hN ⊢
    show ExBd _ _ ∧ _ ∧ _
    rw [hok, if_pos rfl, hQ, hN]
    simp only [List.length_cons] at h1 hLH
    refine ⟨hB, by omega, ?_⟩
    have h3 := ih ch.tail (fun p hp => hE1 p (List.mem_cons_of_mem _ hp)) (by rw [l1_cons] at hl1; omega) LH (by omega) hLL (out ++ [q]) (by rw [List.length_append]; simp only [List.length_cons, List.length_nil]; omega) (by
      rw [l1_append, l1_cons, l1_nil]
      rw [l1_cons] at h2
      omega)
    rw [List.append_assoc] at h3
    exact h3

/-- What a division returns is a quotient. -/
theorem exOk_sound {t : Tm} {d' : List Tm} (cd : Canon (t :: d')) : ∀ (N : Nat) (rest out h : List Tm), AllV rest → AllV out → ExOk (t :: d') t N rest out (some h) → AllV h ∧ ∀ e, cf (prodL h (t :: d')) e = cf rest e + cf (prodL out (t :: d')) e := by
  intro N
  induction N with
  | zero =>
    intro rest out h hr ho hx
    match rest, hx with
    | [], hx =>
      have h1 : some h = some out := hx.1
      injection h1 with h1
      subst h1
      exact ⟨ho, fun e => by rw [cf_nil]; omega⟩
    | _ :: _, hx => exact hx.elim
  | succ N ih =>
    intro rest out h hr ho hx
    match rest, hr, hx with
    | [], hr, hx =>
      have h1 : some h = some out := hx.1
      injection h1 with h1
      subst h1
      exact ⟨ho, fun e => by rw [cf_nil]; omega⟩
    | p :: rest, hr, hx =>
      have h1 : ExBd (p :: rest) (t :: d') ∧ out.length < 1073741823 ∧ (if okQ p t then ExOk (t :: d') t N (exNext (p :: rest) (t :: d') (exQ p t)) (out ++ [exQ p t]) (some h) else some h = none) := hx
      by_cases hok : okQ p t = true
      · rw [if_pos hok] at h1
        have hv : validE (exQ p t).2 = true := by
          unfold okQ at hok
          rw [Bool.and_eq_true] at hok
          exact hok.2
        have hq : AllV [exQ p t] := fun r hr => by rw [List.mem_singleton] at hr; rw [hr]; exact hv
        obtain ⟨h2, h3⟩ := ih _ _ h (exNext_canon _ _ _).allV (ho.append hq) h1.2.2
        refine ⟨h2, fun e => ?_⟩
        rw [h3, exNext_cf hr hv cd.allV, prodL_append, cf_append, cf_prodL_cons, prodL_nil, cf_nil]
        omega
      · rw [if_neg hok] at h1
        cases h1.2.2

/-- A weight of exponents, and a rank. -/
def wt (e : Ex) : Int := 64 * e.2.2.2 + 16 * e.2.2.1 + 4 * e.2.1 + e.1
def rk (e : Ex) : Int := 2097152 * e.2.2.2 + 65536 * e.2.2.1 + 512 * e.2.1 + e.1
theorem wt_add (e f : Ex) : wt (addE e f) = wt e + wt f := by
  show 64 * (e.2.2.2 + f.2.2.2) + 16 * (e.2.2.1 + f.2.2.1) + 4 * (e.2.1 + f.2.1) + (e.1 + f.1) = _
  unfold wt; omega
theorem wt_sub (e f : Ex) : wt (subE e f) = wt e - wt f := by
  show 64 * (e.2.2.2 - f.2.2.2) + 16 * (e.2.2.1 - f.2.2.1) + 4 * (e.2.1 - f.2.1) + (e.1 - f.1) = _
  unfold wt; omega
theorem cmpE_cases {e f : Ex} (h : 0 ≤ cmpE e f) : f.2.2.2 < e.2.2.2 ∨ f.2.2.2 = e.2.2.2 ∧ (f.2.2.1 < e.2.2.1 ∨ f.2.2.1 = e.2.2.1 ∧ (f.2.1 < e.2.1 ∨ f.2.1 = e.2.1 ∧ f.1 ≤ e.1)) := by
  unfold cmpE at h
  simp only [cmpTo, ex] at h
  split at h
  · omega
  · split at h
    · omega
    · split at h
      · omega
      · split at h
        · omega
        · split at h
          · omega
          · split at h
            · omega
            · split at h
              · omega
              · omega
theorem wt_le {e f : Ex} (h : 0 ≤ cmpE e f) (hv : ∀ j, j < 4 → 0 ≤ ex e j) (hf : ∀ j, j < 4 → 0 ≤ ex f j ∧ ex f j ≤ 3) : wt f ≤ wt e := by
  have h1 := cmpE_cases h
  have a0 := hv 0 (by omega)
  have a1 := hv 1 (by omega)
  have a2 := hv 2 (by omega)
  have a3 := hv 3 (by omega)
  have b0 := hf 0 (by omega)
  have b1 := hf 1 (by omega)
  have b2 := hf 2 (by omega)
  have b3 := hf 3 (by omega)
  simp only [ex] at a0 a1 a2 a3 b0 b1 b2 b3
  unfold wt
  omega
theorem wt_bound {e : Ex} (hv : validE e = true) (hw : wt e ≤ 511) : 0 ≤ e.1 ∧ 0 ≤ e.2.1 ∧ 0 ≤ e.2.2.1 ∧ 0 ≤ e.2.2.2 ∧ e.1 ≤ 511 ∧ e.2.1 ≤ 127 ∧ e.2.2.1 ≤ 31 ∧ e.2.2.2 ≤ 7 := by
  have hv := validE_iff.1 hv
  have a0 := hv 0 (by omega)
  have a1 := hv 1 (by omega)
  have a2 := hv 2 (by omega)
  have a3 := hv 3 (by omega)
  simp only [ex] at a0 a1 a2 a3
  unfold wt at hw
  omega
theorem rk_lt {e f : Ex} (h : 0 < cmpE e f) (hv : validE e = true) (hw : wt e ≤ 511) (hv2 : validE f = true) (hw2 : wt f ≤ 511) : rk f < rk e := by
  have h1 := cmpE_cases (e := e) (f := f) (by omega)
  have a := wt_bound hv hw
  have b := wt_bound hv2 hw2
  have hne : e ≠ f := fun he => by rw [he, cmpE_self] at h; omega
  have h2 : ¬ (f.2.2.2 = e.2.2.2 ∧ f.2.2.1 = e.2.2.1 ∧ f.2.1 = e.2.1 ∧ f.1 = e.1) := fun ⟨h3, h4, h5, h6⟩ => hne (ex_ext h6.symm h5.symm h4.symm h3.symm)
  unfold rk
  omega
theorem rk_bound {e : Ex} (hv : validE e = true) (hw : wt e ≤ 511) : 0 ≤ rk e ∧ rk e < 16777216 := by
  have a := wt_bound hv hw
  unfold rk
  omega
def WtL (l : List Tm) : Prop := ∀ p ∈ l, wt p.2 ≤ 511
theorem WtL.allE {l : List Tm} (h : WtL l) (hv : AllV l) : AllE l 511 := fun p hp j hj => by
  have a := wt_bound (hv p hp) (h p hp)
  match j, hj with
  | 0, _ => show p.2.1.toNat ≤ 511; omega
  | 1, _ => show p.2.2.1.toNat ≤ 511; omega
  | 2, _ => show p.2.2.2.1.toNat ≤ 511; omega
  | 3, _ => show p.2.2.2.2.toNat ≤ 511; omega
def rkL : List Tm → Nat
  | [] => 0
  | p :: _ => (rk p.2).toNat + 1

theorem exNext_step {p t : Tm} {rest d' : List Tm} (cr : Canon (p :: rest)) (cd : Canon (t :: d')) (hw : WtL (p :: rest)) (hd : ∀ s ∈ t :: d', ∀ j, j < 4 → ex s.2 j ≤ 3) (hok : okQ p t = true) :
    WtL (exNext (p :: rest) (t :: d') (exQ p t)) ∧ rkL (exNext (p :: rest) (t :: d') (exQ p t)) < rkL (p :: rest) := by
  have hok' := hok
  unfold okQ at hok'
  rw [Bool.and_eq_true, decide_eq_true_eq] at hok'
  obtain ⟨hdv, hval⟩ := hok'
  have ht := cd.2 t (List.mem_cons_self ..)
  have hp := cr.2 p (List.mem_cons_self ..)
  have hmul : (exQ p t).1 * t.1 = p.1 := Int.tdiv_mul_cancel hdv
  have hcf := exNext_cf (q := exQ p t) (d := t :: d') cr.allV hval cd.allV
  have hcan := exNext_canon (p :: rest) (t :: d') (exQ p t)
  have hmem : ∀ r ∈ exNext (p :: rest) (t :: d') (exQ p t), 0 < cmpE p.2 r.2 ∧ wt r.2 ≤ 511 := by
    intro r hr
    have hr1 := cf_mem hcan hr
    have hr0 := (hcan.2 r hr).1
    have hle : 0 ≤ cmpE p.2 r.2 ∧ wt r.2 ≤ 511 := by
      obtain ⟨s, hs, he⟩ := mem_nf hr
      rcases List.mem_append.1 hs with h1 | h1
      · rw [he]; exact ⟨canon_le cr h1, hw s h1⟩
      · obtain ⟨u, hu, rfl⟩ := List.mem_map.1 h1
        obtain ⟨v, hv, he2⟩ := mem_nf hu
        obtain ⟨a, ha, b, hb, rfl⟩ := mem_prodL hv
        obtain ⟨a', ha', hea⟩ := mem_nf ha
        obtain ⟨b', hb', heb⟩ := mem_nf hb
        rw [List.mem_singleton] at ha'
        have h2 : r.2 = addE (subE p.2 t.2) b'.2 := by
          rw [he]
          show u.2 = _
          rw [he2]
          show addE a.2 b.2 = _
          rw [hea, heb, ha']
          rfl
        have h3 := canon_le cd hb'
        have h4 : 0 ≤ cmpE (addE (subE p.2 t.2) t.2) (addE (subE p.2 t.2) b'.2) := by rw [cmpE_addl]; exact h3
        rw [addE_subE] at h4
        rw [h2]
        refine ⟨h4, ?_⟩
        rw [wt_add, wt_sub]
        have h5 := wt_le h3 (validE_iff.1 ht.2) (fun j hj => ⟨validE_iff.1 (cd.2 b' hb').2 j hj, hd b' hb' j hj⟩)
        have h6 := hw p (List.mem_cons_self ..)
        omega
    refine ⟨cmpE_pos_ne hle.1 fun hne => ?_, hle.2⟩
    rw [← hne, hcf, cr.head] at hr1
    have h1 : subE p.2 (exQ p t).2 = t.2 := by
      show subE p.2 (subE p.2 t.2) = t.2
      apply ex_ext <;> simp [subE] <;> omega
    rw [h1, cd.head, hmul] at hr1
    omega
  refine ⟨fun r hr => (hmem r hr).2, ?_⟩
  generalize exNext (p :: rest) (t :: d') (exQ p t) = l at *
  match l with
  | [] => show 0 < (rk p.2).toNat + 1; omega
  | r :: l' =>
    show (rk r.2).toNat + 1 < (rk p.2).toNat + 1
    have h1 := hmem r (List.mem_cons_self ..)
    have hv := (hcan.2 r (List.mem_cons_self ..)).2
    have h2 := rk_lt h1.1 hp.2 (hw p (List.mem_cons_self ..)) hv h1.2
    have h3 := rk_bound hv h1.2
    omega

theorem exNext_l1 {p t : Tm} {rest d : List Tm} : l1 (exNext (p :: rest) d (exQ p t)) ≤ l1 (p :: rest) * (1 + l1 d) := by
  unfold exNext
  refine Nat.le_trans (l1_nf_sub _ _) ?_
  have h1 : l1 (mulL [exQ p t] d) ≤ p.1.natAbs * l1 d := by
    refine Nat.le_trans (l1_nf_mul _ _) (Nat.mul_le_mul_right _ ?_)
    rw [l1_cons, l1_nil]
    show (p.1.tdiv t.1).natAbs + 0 ≤ _
    rw [Int.natAbs_tdiv, Nat.add_zero]
    exact Nat.div_le_self _ _
  rw [Nat.mul_add, Nat.mul_one]
  have h2 : p.1.natAbs * l1 d ≤ l1 (p :: rest) * l1 d := Nat.mul_le_mul_right _ (by rw [l1_cons]; omega)
  omega
theorem exNext_length {p t : Tm} {rest d : List Tm} : (exNext (p :: rest) d (exQ p t)).length ≤ (p :: rest).length + d.length := by
  unfold exNext
  refine Nat.le_trans (length_nf_sub _ _) ?_
  have h1 := length_nf_mul [exQ p t] d
  rw [List.length_singleton, Nat.one_mul] at h1
  exact Nat.add_le_add_left h1 _

theorem exOk_any {t : Tm} {d' : List Tm} (cd : Canon (t :: d')) (hd : ∀ s ∈ t :: d', ∀ j, j < 4 → ex s.2 j ≤ 3) (LD : Nat) (hLD : (t :: d').length ≤ LD) :
    ∀ (N : Nat) (rest out : List Tm), Canon rest → WtL rest → rkL rest ≤ N → rest.length + N * LD + LD ≤ 536870912 → out.length + N < 1073741824 → l1 rest * (2 + l1 (t :: d')) ^ (N + 1) < mid → l1 out + l1 rest * (2 + l1 (t :: d')) ^ (N + 1) < big →
      AllE out 511 → ∃ r, ExOk (t :: d') t N rest out r ∧ ∀ h, r = some h → AllE h 511 ∧ h.length ≤ out.length + N ∧ l1 h ≤ l1 out + l1 rest * (2 + l1 (t :: d')) ^ (N + 1) := by
  intro N
  induction N with
  | zero =>
    intro rest out cr hw hrk h1 h2 h3 h4 h5
    match rest, hrk with
    | [], _ => exact ⟨some out, ⟨rfl, by omega, by omega⟩, fun h he => by injection he with he; subst he; exact ⟨h5, by omega, by omega⟩⟩
    | p :: _, hrk => exact absurd hrk (by show ¬ (rk p.2).toNat + 1 ≤ 0; omega)
  | succ N ih =>
    intro rest out cr hw hrk h1 h2 h3 h4 hEo
    match rest, cr, hw, hrk, h1, h2, h3, h4 with
    | [], _, _, _, _, _, _, _ => exact ⟨some out, ⟨rfl, by omega, by omega⟩, fun h he => by injection he with he; subst he; exact ⟨hEo, by omega, by omega⟩⟩
    | p :: rest, cr, hw, hrk, h1, h2, h3, h4 =>
      have hpow : l1 (p :: rest) * (2 + l1 (t :: d')) ≤ l1 (p :: rest) * (2 + l1 (t :: d')) ^ (N + 1 + 1) := by
        refine Nat.mul_le_mul_left _ ?_
        rw [Nat.pow_succ]
        exact Nat.le_mul_of_pos_left _ (Nat.pow_pos (by omega))
      have hAd : AllE (t :: d') 3 := fun s hs j hj => by
        have := hd s hs j hj
        omega
      have hmm : (N + 1) * LD = N * LD + LD := by rw [Nat.add_mul, Nat.one_mul]
      have hB : ExBd (p :: rest) (t :: d') := ⟨by omega, Nat.lt_of_le_of_lt hpow h3, (hw.allE cr.allV).mono (by omega), hAd.mono (by omega)⟩
      by_cases hok : okQ p t = true
      · obtain ⟨hw2, hr2⟩ := exNext_step cr cd hw hd hok
        have hl := exNext_l1 (p := p) (t := t) (rest := rest) (d := t :: d')
        have hle := exNext_length (p := p) (t := t) (rest := rest) (d := t :: d')
        have hX : l1 (exNext (p :: rest) (t :: d') (exQ p t)) * (2 + l1 (t :: d')) ^ (N + 1) + l1 (p :: rest) ≤ l1 (p :: rest) * (2 + l1 (t :: d')) ^ (N + 1 + 1) := by
          have h5 : l1 (exNext (p :: rest) (t :: d') (exQ p t)) * (2 + l1 (t :: d')) ^ (N + 1) ≤ l1 (p :: rest) * (1 + l1 (t :: d')) * (2 + l1 (t :: d')) ^ (N + 1) := Nat.mul_le_mul_right _ hl
          have h6 : l1 (p :: rest) ≤ l1 (p :: rest) * (2 + l1 (t :: d')) ^ (N + 1) := Nat.le_mul_of_pos_right _ (Nat.pow_pos (by omega))
          have h7 : l1 (p :: rest) * (2 + l1 (t :: d')) ^ (N + 1 + 1) = l1 (p :: rest) * (1 + l1 (t :: d')) * (2 + l1 (t :: d')) ^ (N + 1) + l1 (p :: rest) * (2 + l1 (t :: d')) ^ (N + 1) := by
            rw [Nat.pow_succ (n := 2 + l1 (t :: d')) (m := N + 1), Nat.mul_comm ((2 + l1 (t :: d')) ^ (N + 1)), ← Nat.mul_assoc, show 2 + l1 (t :: d') = (1 + l1 (t :: d')) + 1 by omega, Nat.mul_add (l1 (p :: rest)), Nat.mul_one, Nat.add_mul]
          omega
        have hq1 : (exQ p t).1.natAbs ≤ l1 (p :: rest) := by
          show (p.1.tdiv t.1).natAbs ≤ _
          rw [Int.natAbs_tdiv, l1_cons]
          exact Nat.le_trans (Nat.div_le_self _ _) (Nat.le_add_right _ _)
        have hlo : (out ++ [exQ p t]).length = out.length + 1 := by simp
        have hl1o : l1 (out ++ [exQ p t]) = l1 out + (exQ p t).1.natAbs := by rw [l1_append, l1_cons, l1_nil]; omega
        have hEq : AllE (out ++ [exQ p t]) 511 := hEo.append fun q hq j hj => by
          rw [List.mem_singleton.1 hq]
          show (ex (subE p.2 t.2) j).toNat ≤ 511
          have h8 := hw.allE cr.allV p (List.mem_cons_self ..) j hj
          have h9 := validE_iff.1 (cd.2 t (List.mem_cons_self ..)).2 j hj
          rw [ex_subE]
          omega
        obtain ⟨r, hr, hrr⟩ := ih (exNext (p :: rest) (t :: d') (exQ p t)) (out ++ [exQ p t]) (exNext_canon _ _ _) hw2 (by omega) (by omega) (by omega) (by omega) (by omega) hEq
        refine ⟨r, ⟨hB, by omega, ?_⟩, fun h he => ?_⟩
        · rw [if_pos hok]
          exact hr
        · obtain ⟨g1, g2, g3⟩ := hrr h he
          exact ⟨g1, by omega, by omega⟩
      · refine ⟨none, ⟨hB, by omega, ?_⟩, fun h he => by cases he⟩
        rw [if_neg hok]
end Go.Proofs.YtnknidfpkmnncaaGreat
/- math/bits: Div32, Len32, LeadingZeros32, Div64 below 2^64. -/
namespace Go.Proofs.YtnknidfpkmnncaaGreat
open Go.RowKit

theorem u64_or_hi (hi lo : Nat) (h1 : hi < 4294967296) (h2 : lo < 4294967296) : bits .or .u64 ((hi : Int) * 4294967296) (lo : Int) = ((hi * 4294967296 + lo : Nat) : Int) := by
  rw [show (hi : Int) * 4294967296 = ((hi * 4294967296 : Nat) : Int) by omega, u64_or_nat _ _ (by omega) (by omega)]
  congr 1
  have := Nat.two_pow_add_eq_or_of_lt (i := 32) (b := lo) h2 hi
  rw [Nat.mul_comm] at this
  exact this.symm

set_option maxRecDepth 100000 in
set_option maxHeartbeats 1000000 in
theorem div32_any (hi lo d : Nat) (w : World) (h1 : hi < d) (h2 : lo < 4294967296) (h3 : d < 4294967296) :
    Calls Tryz.prog 114 #[.int .u32 hi, .int .u32 lo, .int .u32 d] w fun e w' =>
      e = .returned (.tuple #[.int .u32 ((hi * 4294967296 + lo) / d : Nat), .int .u32 ((hi * 4294967296 + lo) % d : Nat)]) ∧ Drawn w w' := by
  have i1 : ¬ ((d : Int) ≤ (hi : Int)) := by omega
  have i2 : ((d : Int) != 0) = true := by rw [bne_iff_ne]; omega
  have e1 := u64_or_hi hi lo (by omega) h2
  obtain ⟨z, hz⟩ : ∃ z, z = hi * 4294967296 + lo := ⟨_, rfl⟩
  have hq : z / d < 4294967296 := by
    rw [Nat.div_lt_iff_lt_mul (by omega)]
    have h4 : (hi + 1) * 4294967296 ≤ d * 4294967296 := Nat.mul_le_mul_right _ h1
    rw [Nat.mul_comm 4294967296]
    omega
  have hr : z % d < d := Nat.mod_lt _ (by omega)
  have hz64 : z < 18446744073709551616 := by omega
  rw [← hz] at e1 ⊢
  have e2 : (z : Int) / (d : Int) = ((z / d : Nat) : Int) := by omega
  have e3 : (z : Int) % (d : Int) = ((z % d : Nat) : Int) := by omega
  have hd0 : ((d : Int) == 0) = false := by rw [beq_eq_false_iff_ne]; omega
  have hd1 : ¬ ((d : Int) = 0) := by omega
  generalize z / d = q at *
  generalize z % d = r at *
  have hz0 : (0 : Int) ≤ (z : Int) := by omega
  have HZ := Lib.hid hz
  clear hz
  go_enter Tryz.func114, Tryz.ntmps114
  go_wp2
  go_quiet (fail)
  go_wp2
  go_ret2
  exact ⟨rfl, (Drawn.refl _).drewN _⟩

set_option maxRecDepth 100000 in
theorem len8tab_size : (Lib.len8tab.size : Int) = 256 := by
  have : Lib.len8tab.size = 256 := by decide
  omega
theorem wrap_add8 (k a b : Nat) (hk : k ≤ 56) (ha : a ≤ 8) (hb : b = k + a) : RowKit.wrap64 ((k : Int) + RowKit.wrap64 (a : Int)) = (b : Int) := by
  unfold RowKit.wrap64
  omega
theorem wrap_wrap8 (a : Nat) (ha : a ≤ 8) : RowKit.wrap64 (RowKit.wrap64 (a : Int)) = (a : Int) := by
  unfold RowKit.wrap64
  omega
theorem len8_get (y : Int) (h : y.toNat < Lib.len8tab.size) : ((Lib.len8tab[y.toNat]'h).toNat : Int) = Lib.len8 y := by
  unfold Lib.len8
  rw [getElem?_pos Lib.len8tab y.toNat h]
  rfl
set_option maxHeartbeats 4000000 in
set_option maxRecDepth 100000 in
theorem len32_any (x : Int) (w : World) (h0 : 0 ≤ x) (h1 : x ≤ 4294967295) :
    Calls Tryz.prog 95 #[.int .u32 x] w fun e w' => e = .returned (.int .i64 (Lib.bitLen x.toNat)) ∧ w = w' := by
  go_enter Tryz.func95, Tryz.ntmps95
  go_wp2
  all_goals first
    | (go_ret; refine ⟨congrArg Ending.returned (congrArg (Value.int IntKind.i64) ?_), rfl⟩)
    | (exfalso
       have hs := len8tab_size
       omega)
  all_goals first
    | (rw [len8_get (x / 65536 / 256) _, Lib.len8_of (x / 65536 / 256) (by omega) (by omega)]
       have e : (x / 65536 / 256).toNat = x.toNat / 16777216 := by omega
       have l := Lib.bitLen_le8' (x / 65536 / 256) (by omega) (by omega)
       have s := Lib.bitLen_shift24 x.toNat (by omega) (by omega)
       rw [e] at l ⊢
       exact wrap_add8 24 _ _ (by decide) l s)
    | (rw [len8_get (x / 65536) _, Lib.len8_of (x / 65536) (by omega) (by omega)]
       have e : (x / 65536).toNat = x.toNat / 65536 := by omega
       have l := Lib.bitLen_le8' (x / 65536) (by omega) (by omega)
       have s := Lib.bitLen_shift16 x.toNat (by omega) (by omega)
       rw [e] at l ⊢
       exact wrap_add8 16 _ _ (by decide) l s)
    | (rw [len8_get (x / 256) _, Lib.len8_of (x / 256) (by omega) (by omega)]
       have e : (x / 256).toNat = x.toNat / 256 := by omega
       have l := Lib.bitLen_le8' (x / 256) (by omega) (by omega)
       have s := Lib.bitLen_shift8 x.toNat (by omega) (by omega)
       rw [e] at l ⊢
       exact wrap_add8 8 _ _ (by decide) l s)
    | (rw [len8_get x _, Lib.len8_of x (by omega) (by omega)]
       have l := Lib.bitLen_le8' x (by omega) (by omega)
       exact wrap_wrap8 _ l)
set_option maxRecDepth 100000 in
theorem lz32_any (x : Nat) (w : World) (h1 : x < 4294967296) :
    Calls Tryz.prog 108 #[.int .u32 x] w fun e w' => e = .returned (.int .i64 ((32 - Lib.bitLen x : Nat) : Int)) ∧ w = w' := by
  have l : Lib.bitLen x ≤ 32 := Lib.bitLen_le x 32 (by omega) (by omega)
  have HC := Lib.hid (len32_any (x : Int) w (by omega) (by omega))
  rw [Int.toNat_natCast] at HC
  generalize Lib.bitLen x = m at *
  go_enter Tryz.func108, Tryz.ntmps108
  go_wp2_with fail
  refine HC.out.mono ?_
  rintro e w' ⟨rfl, rfl⟩
  have e1 : (32 : Int) - (m : Int) = ((32 - m : Nat) : Int) := by omega
  go_wp2
  go_ret
  exact ⟨rfl, rfl⟩
/-- What the leading zeros are good for. -/
theorem bitLen_bounds : ∀ (k x : Nat), x < 2 ^ k → k ≤ 64 → 0 < x → 2 ^ (Lib.bitLen x - 1) ≤ x ∧ x < 2 ^ Lib.bitLen x ∧ 1 ≤ Lib.bitLen x ∧ Lib.bitLen x ≤ k := by
  intro k
  induction k with
  | zero => intro x h _ h0; simp at h; omega
  | succ k ih =>
    intro x h hk h0
    have h64 : x < 2 ^ 64 := Nat.lt_of_lt_of_le h (Nat.pow_le_pow_right (by omega) hk)
    have hh := Lib.bitLen_half x (by omega) h64
    rcases Nat.eq_zero_or_pos (x / 2) with hz | hz
    · have hx : x = 1 := by omega
      subst hx
      rw [hz] at hh
      have : Lib.bitLen 0 = 0 := by decide
      rw [hh, this]
      simp
    · have h1 := ih (x / 2) (by rw [Nat.pow_succ] at h; omega) (by omega) hz
      rw [hh]
      obtain ⟨h2, h3, h4, h5⟩ := h1
      have e1 : 1 + Lib.bitLen (x / 2) - 1 = (Lib.bitLen (x / 2) - 1) + 1 := by omega
      rw [e1, Nat.pow_succ, show 1 + Lib.bitLen (x / 2) = Lib.bitLen (x / 2) + 1 by omega, Nat.pow_succ]
      omega
theorem lz_bounds (x : Nat) (h : x < 4294967296) (h0 : 0 < x) : 32 - Lib.bitLen x ≤ 31 ∧ 2147483648 ≤ x * 2 ^ (32 - Lib.bitLen x) ∧ x * 2 ^ (32 - Lib.bitLen x) < 4294967296 := by
  obtain ⟨h1, h2, h3, h4⟩ := bitLen_bounds 32 x h (by omega) h0
  generalize Lib.bitLen x = m at *
  refine ⟨by omega, ?_, ?_⟩
  · have e : 2 ^ (m - 1) * 2 ^ (32 - m) = 2147483648 := by rw [← Nat.pow_add, show m - 1 + (32 - m) = 31 by omega]
    rw [← e]
    exact Nat.mul_le_mul_right _ h1
  · have e : 2 ^ m * 2 ^ (32 - m) = 4294967296 := by rw [← Nat.pow_add, show m + (32 - m) = 32 by omega]
    rw [← e]
    exact Nat.mul_lt_mul_of_pos_right h2 (Nat.pow_pos (by omega))

set_option maxRecDepth 100000 in
set_option maxHeartbeats 1000000 in
theorem div64_any (lo d : Nat) (w : World) (h0 : 0 < d) (h2 : lo < 18446744073709551616) (h3 : d < 18446744073709551616) :
    Calls Tryz.prog 110 #[.int .u64 0, .int .u64 lo, .int .u64 d] w fun e w' =>
      e = .returned (.tuple #[.int .u64 (lo / d : Nat), .int .u64 (lo % d : Nat)]) ∧ Drawn w w' := by
  have i1 : ¬ ((d : Int) ≤ 0) := by omega
  have i2 : ((d : Int) == 0) = false := by rw [beq_eq_false_iff_ne]; omega
  have i3 : ¬ ((d : Int) = 0) := by omega
  have e2 : (lo : Int) / (d : Int) = ((lo / d : Nat) : Int) := by omega
  have e3 : (lo : Int) % (d : Int) = ((lo % d : Nat) : Int) := by omega
  have hql : lo / d < 18446744073709551616 := Nat.lt_of_le_of_lt (Nat.div_le_self _ _) h2
  generalize lo / d = q at *
  have hw : IntKind.u64.wrap (q : Int) = (q : Int) := by unfold IntKind.wrap; simp [IntKind.signed, IntKind.bits]; omega
  generalize lo % d = r at *
  go_enter Tryz.func110, Tryz.ntmps110
  go_wp2
  go_quiet (fail)
  go_wp2
  go_ret2
  refine ⟨?_, (Drawn.refl _).drewN _⟩
  show Ending.returned (.tuple #[.int .u64 (q : Int), .int .u64 ((lo : Int) % (d : Int))]) = _
  rw [e3]
end Go.Proofs.YtnknidfpkmnncaaGreat
/- natural.DivSmall. -/
namespace Go.Proofs.YtnknidfpkmnncaaGreat
open Go.RowKit

theorem val_drop_set (zs : List Nat) (k q : Nat) (hk : k < zs.length) : val ((zs.set k q).drop k) = q + 4294967296 * val (zs.drop (k + 1)) := by
  rw [val_drop _ k (by simpa using hk), dg_set, if_pos ⟨rfl, hk⟩, List.drop_set_of_lt (by omega)]
/-- One more digit of a quotient. -/
theorem div_round {xs zs : List Nat} {k d r : Nat} (hx : k < xs.length) (hz : k < zs.length) (h : val (zs.drop (k + 1)) * d + r = val (xs.drop (k + 1))) :
    val ((zs.set k ((r * 4294967296 + dg xs k) / d)).drop k) * d + (r * 4294967296 + dg xs k) % d = val (xs.drop k) := by
  rw [val_drop_set zs k _ hz, val_drop xs k hx, ← h]
  have e := Nat.div_add_mod (r * 4294967296 + dg xs k) d
  generalize (r * 4294967296 + dg xs k) % d = s at *
  generalize (r * 4294967296 + dg xs k) / d = q at *
  rw [Nat.add_mul, Nat.mul_assoc, Nat.mul_add, Nat.mul_comm q d]
  omega

/-- A quotient by one digit, and the rest. -/
def DivSP (B m d : Nat) (w : World) (e : Ending) (w' : World) : Prop :=
  ∃ A' n' c', e = .returned (.tuple #[.slice A' n' c', .int .u32 ((m % d : Nat) : Int), .bool true]) ∧ Dig B w' A' n' c' (digs (m / d)) ∧ Below w.heap.size w w'
set_option maxRecDepth 100000 in
set_option maxHeartbeats 2000000 in
theorem divsmall_any (B : Nat) (A : Option Addr) (n c : Nat) (xs : List Nat) (d : Nat) (w : World) (hx : Dig B w A n c xs) (hn : n ≤ 1099511627776) (hd : 0 < d) (hd2 : d < 4294967296) :
    Calls Tryz.prog 107 #[.slice A n c, .int .u32 d] w (DivSP B (val xs) d w) := by
  have hxl := digs_len_of hx
  have hd0 : ((d : Int) == 0) = false := by rw [beq_eq_false_iff_ne]; omega
  go_enter Tryz.func107, Tryz.ntmps107
  go_wp2_with fail
  refine (trim_any B _ _ _ _ _ hx).mono ?_
  rintro e w' ⟨A', n', c', rfl, h', rfl⟩
  have hbd := h'.bd
  have hcap := h'.cap
  have hn' : n' ≤ 1099511627776 := by have := h'.len; omega
  clear hx hxl
  generalize val xs = p at *
  have hmk := fun W => run_make_digits n' (n' : Int) rfl (by omega) W
  have HP := Lib.hid (val_digs p)
  have HLN := Lib.hid h'.len
  go_wp2_with fail
  go_loopw [8, 9] (fun rv i wr => ∃ (k r : Nat) (zs : List Nat), k ≤ n' ∧ i = .int .i64 ((k : Int) - 1) ∧ rv = .int .u32 r ∧ r < d ∧ MulRel w n' zs wr ∧ Hid (val (zs.drop k) * d + r = val ((digs p).drop k))) (fun _ i _ => (intOf i + 1).toNat)
  case atStart => exact ⟨n', 0, _, Nat.le_refl _, rfl, rfl, hd, MulRel.start w n', Lib.hid (by rw [List.drop_of_length_le (by simp), List.drop_of_length_le (by rw [HLN.out]; exact Nat.le_refl _)]; simp [val_nil])⟩
  case round =>
    obtain ⟨k, r, zs, hk, rfl, rfl, hr, hR, HV⟩ := hrel
    rcases k with _ | k
    · have hdz : val zs * d + r = p := by have h1 := HV.out; simp only [List.drop_zero] at h1; rw [h1, HP.out]
      have HQ := Lib.hid (show val zs = p / d ∧ r = p % d by
        have h1 : p / d = val zs := by rw [← hdz, Nat.mul_comm, Nat.mul_add_div hd, Nat.div_eq_of_lt hr]; omega
        have h2 : p % d = r := by rw [← hdz, Nat.mul_comm, Nat.mul_add_mod, Nat.mod_eq_of_lt hr]
        exact ⟨h1.symm, h2.symm⟩)
      have hdg := hR.made.dig hR.lt (by rw [hR.len]; omega) B
      have HB := Lib.hid hR.below
      have HZ := Lib.hid hR.len
      rw [hR.len] at hdg
      clear hdz hR
      go_wp2_with fail
      refine (trim_any B _ _ _ _ _ hdg).mono ?_
      rintro e w2 ⟨A2, n2, c2, rfl, h2, rfl⟩
      have HD2 := Lib.hid h2
      clear h2 hdg
      go_wp2
      go_ret3
      refine ⟨A2, n2, c2, by rw [← HQ.out.2]; rfl, by rw [← HQ.out.1]; exact HD2.out, HB.out⟩
    · obtain ⟨ad, rfl, hca⟩ := h'.cell k (by omega)
      have hca' := (hR.below.cell (World.block_lt_of_cell? w _ hca)).trans hca
      have hout := hR.made.cell (k := k) (by rw [hR.len]; omega)
      have houtf := hR.made.frozen k
      have hx32 := h'.dig k
      have e1 : (((k + 1 : Nat) : Int) - 1) = (k : Int) := by omega
      rw [e1]
      clear e1
      have i0 : (0 : Int) ≤ (k : Int) := by omega
      have i1 : (k : Int) < (n' : Int) := by omega
      have HV2 := Lib.hid (div_round (xs := digs p) (zs := zs) (k := k) (d := d) (r := r) (by rw [HLN.out]; omega) (by rw [hR.len]; omega) HV.out)
      have HC := Lib.hid (fun W => div32_any r (dg (digs p) k) d W hr hx32 hd2)
      have hq32 : (r * 4294967296 + dg (digs p) k) / d < 4294967296 := by
        rw [Nat.div_lt_iff_lt_mul hd]
        have h4 : (r + 1) * 4294967296 ≤ d * 4294967296 := Nat.mul_le_mul_right _ hr
        rw [Nat.mul_comm 4294967296]
        omega
      have hr32 : (r * 4294967296 + dg (digs p) k) % d < d := Nat.mod_lt _ hd
      generalize (r * 4294967296 + dg (digs p) k) / d = q at *
      generalize (r * 4294967296 + dg (digs p) k) % d = s at *
      generalize dg (digs p) k = x at *
      go_wp2_with fail
      refine (HC.out _).mono ?_
      rintro e w2 ⟨rfl, m, rfl⟩
      have hR2 : MulRel w n' (zs.set k q) ((wr.drewN m).setCell ⟨w.heap.size, k, none⟩ (.int .u32 q)) := MulRel.step (wr := wr.drewN m) ⟨hR.made, hR.len, hR.lt, hR.below.trans (((Drawn.refl wr).drewN m).below _)⟩ k q hq32
      have HR2 := Lib.hid hR2
      clear hR hR2 HV HC
      go_wp2
      go_roundw
      case rel => exact ⟨k, s, zs.set k q, by omega, by go_num, rfl, hr32, HR2.out, HV2⟩
      case measure => simp [intOf]
end Go.Proofs.YtnknidfpkmnncaaGreat
/- natural.Shl below 32. -/
namespace Go.Proofs.YtnknidfpkmnncaaGreat
open Go.RowKit

theorem or_low (a b t : Nat) (hb : b < 2 ^ t) : (2 ^ t * a) ||| b = 2 ^ t * a + b := (Nat.two_pow_add_eq_or_of_lt hb a).symm
/-- One digit, moved up. -/
theorem shl_digit (x t l : Nat) (hx : x < 4294967296) (ht : t < 32) (hl : l < 2 ^ t) :
    ∃ y m : Nat, ((x : Int) * 2 ^ t % 4294967296 = (y : Int) ∧ (x : Int) / 2 ^ (32 - t) = (m : Int) ∧ bits .or .u32 (y : Int) (l : Int) = ((y + l : Nat) : Int)) ∧ y + l < 4294967296 ∧ m < 2 ^ t ∧ x * 2 ^ t = y + 4294967296 * m := by
  have hp : (4294967296 : Nat) = 2 ^ t * 2 ^ (32 - t) := by rw [← Nat.pow_add, show t + (32 - t) = 32 by omega]
  have hy : x * 2 ^ t % 4294967296 = 2 ^ t * (x % 2 ^ (32 - t)) := by rw [Nat.mul_comm x, hp, Nat.mul_mod_mul_left]
  have hm : x * 2 ^ t / 4294967296 = x / 2 ^ (32 - t) := by rw [Nat.mul_comm x, hp, Nat.mul_div_mul_left _ _ (Nat.pow_pos (by omega))]
  have hlt : x % 2 ^ (32 - t) < 2 ^ (32 - t) := Nat.mod_lt _ (Nat.pow_pos (by omega))
  have hyl : 2 ^ t * (x % 2 ^ (32 - t)) + l < 4294967296 := by
    have h1 : 2 ^ t * (x % 2 ^ (32 - t) + 1) ≤ 2 ^ t * 2 ^ (32 - t) := Nat.mul_le_mul_left _ hlt
    rw [Nat.mul_add, Nat.mul_one] at h1
    omega
  refine ⟨x * 2 ^ t % 4294967296, x / 2 ^ (32 - t), ⟨?_, ?_, ?_⟩, ?_, ?_, ?_⟩
  · rw [show ((x : Int) * 2 ^ t) = ((x * 2 ^ t : Nat) : Int) by simp]; omega
  · simp
  · rw [hy, u32_or_nat _ _ (by omega) (by omega), or_low _ _ _ hl]
  · rw [hy]; exact hyl
  · rw [Nat.div_lt_iff_lt_mul (Nat.pow_pos (by omega)), ← hp]; exact hx
  · rw [← hm]; omega
theorem shl_round {zs ys : List Nat} {k l t y m : Nat} (hz : k < zs.length) (hy : k < ys.length) (hd : zs.drop k = ys.drop k) (h : val (zs.take k) + bp k * l = 2 ^ t * val (ys.take k)) (e : dg zs k * 2 ^ t = y + 4294967296 * m) :
    (zs.set k (y + l)).drop (k + 1) = ys.drop (k + 1) ∧ val ((zs.set k (y + l)).take (k + 1)) + bp (k + 1) * m = 2 ^ t * val (ys.take (k + 1)) := by
  have hx : dg zs k = dg ys k := by
    have h1 := dg_drop zs k 0
    have h2 := dg_drop ys k 0
    rw [hd, h2] at h1
    simpa using h1.symm
  constructor
  · rw [List.drop_set_of_lt (by omega)]
    have h1 := congrArg (List.drop 1) hd
    rw [List.drop_drop, List.drop_drop] at h1
    exact h1
  · rw [val_take_succ _ k (by simpa using hz), val_take_succ ys k hy, take_set_of_le _ _ _ _ (Nat.le_refl _), dg_set, if_pos ⟨rfl, hz⟩, bp_succ, ← hx, Nat.mul_add (2 ^ t), ← h, Nat.mul_left_comm (2 ^ t) (bp k), Nat.mul_comm (2 ^ t) (dg zs k), e]
    simp only [Nat.mul_add]
    rw [Nat.mul_comm 4294967296 (bp k), Nat.mul_assoc]
    omega

theorem shl_done {v p n t l : Nat} (ht : t < 32) (hp : p < bp n) (h : v + bp (n + 1) * l = 2 ^ t * p) : v = p * 2 ^ t := by
  have h10 : 2 ^ t ≤ 2 ^ 32 := Nat.pow_le_pow_right (by omega) (by omega)
  have h11 : 2 ^ t * p ≤ 2 ^ 32 * p := Nat.mul_le_mul_right p h10
  have h9 : 2 ^ t * p < bp (n + 1) := by
    rw [bp_succ]
    generalize bp n = b at *
    generalize 2 ^ t * p = a at *
    omega
  rw [Nat.mul_comm p]
  rcases Nat.eq_zero_or_pos l with h12 | h12
  · rw [h12, Nat.mul_zero] at h
    exact h
  · exfalso
    have h13 : bp (n + 1) * 1 ≤ bp (n + 1) * l := Nat.mul_le_mul_left _ h12
    rw [Nat.mul_one] at h13
    generalize bp (n + 1) = b at *
    generalize b * l = c at *
    generalize 2 ^ t * p = a at *
    omega

set_option maxRecDepth 100000 in
set_option maxHeartbeats 2000000 in
theorem shl_any (B : Nat) (A : Option Addr) (n c : Nat) (xs : List Nat) (s : Nat) (w : World) (hx : Dig B w A n c xs) (hn : n ≤ 1073741824) (hs : s < 32) :
    Calls Tryz.prog 109 #[.slice A n c, .int .i64 s] w (NatP B (val xs * 2 ^ s) w) := by
  have hxl := digs_len_of hx
  go_enter Tryz.func109, Tryz.ntmps109
  go_wp2_with fail
  refine (trim_any B _ _ _ _ _ hx).mono ?_
  rintro e w' ⟨A', n', c', rfl, h', rfl⟩
  have hbd := h'.bd
  have hcap := h'.cap
  have hn' : n' ≤ 1073741824 := by have := h'.len; omega
  clear hx hxl
  generalize val xs = p at *
  rcases Nat.eq_zero_or_pos n' with h0 | h0
  · have hp : p = 0 := digs_eq_nil.1 (List.eq_nil_of_length_eq_zero (by rw [h'.len]; exact h0))
    have HP := Lib.hid hp
    have h0' : ((n' : Int) == 0) = true := by rw [beq_iff_eq]; omega
    clear h0 hp
    go_wp2
    go_ret
    exact ⟨none, 0, 0, rfl, by rw [HP.out, Nat.zero_mul, digs_zero]; exact Dig.nil, Below.refl _ _⟩
  · have h0' : ((n' : Int) == 0) = false := by rw [beq_eq_false_iff_ne]; omega
    have hmk := fun W => run_make_digits (n' + 1) ((n' : Int) + 1) (by omega) (by omega) W
    have q1 : (s : Int) / 32 = 0 := by omega
    obtain ⟨t, ht⟩ : ∃ t, t = s := ⟨_, rfl⟩
    have q2 : (s : Int) % 32 = (t : Int) := by omega
    have ht32 : t < 32 := by omega
    have HTS := Lib.hid ht
    clear ht
    have q3 : min (s : Int) 16777216 = (s : Int) := by omega
    have q4 : ¬ ((s : Int) < 0) := by omega
    obtain ⟨ad, rfl, had⟩ : ∃ ad, A' = some ad ∧ ∀ j v, (digCells (digs p))[j]? = some v → w.cell? (ad.add j) = some v := by
      obtain ⟨ad, e, _, hc⟩ := h'.row.cell h0
      exact ⟨ad, e, hc⟩
    have HLN := Lib.hid h'.len
    have hM1 := Made.new w (n' + 1)
    have hal : Below w.heap.size w (w.alloc (.cells (zeroRow (n' + 1)) 83)) := (Below.refl _ _).alloc (Nat.le_refl _) _
    have hsrc : ∀ j v, (digCells (digs p))[j]? = some v → (w.alloc (.cells (zeroRow (n' + 1)) 83)).cell? (ad.add j) = some v := fun j v hv => by
      have h9 := had j v hv
      have hlt := World.block_lt_of_cell? w _ h9
      rw [← h9]
      exact World.cell?_of_block (Below.heap_alloc w _ _ hlt)
    have hu32 : (Tryz.prog.info? 83).map (·.size) = some 1 := by kernel_rfl
    have hn0 : (digCells (digs p)).length = Nat.min n' (n' + 1) := by rw [digCells_length, HLN.out]; exact (Nat.min_eq_left (Nat.le_succ _)).symm
    have hf0 : 0 + (digCells (digs p)).length ≤ (digCells (List.replicate (n' + 1) 0)).length := by rw [digCells_length, digCells_length, HLN.out]; simp
    have HN0 := Lib.hid hn0
    have HF0 := Lib.hid hf0
    have HSRC := Lib.hid hsrc
    have HM1 := Lib.hid hM1
    clear hn0 hf0 hsrc hM1 had
    rcases Nat.eq_zero_or_pos t with h00 | h00
    · have ht0 : decide (0 < t) = false := by rw [decide_eq_false_iff_not]; omega
      have HT0 := Lib.hid h00
      clear h00
      go_upto_region 7 with (fail)
      go_wp2_with (refine wpList_copy_splice (o := ⟨some 33, _, _, _, _, _⟩) rfl (.tmp 31) (.tmp 32) 51 51 rfl 83 Tryz.underlying51 hu32 (some ⟨w.heap.size, 0, none⟩) (some ad) (n' + 1) (n' + 1) n' c' rfl rfl w.heap.size 0 (digCells (List.replicate (n' + 1) 0)) 83 HM1.out (digCells (digs p)) HN0.out (fun _ => ⟨rfl, ad, rfl, HSRC.out⟩) HF0.out (digCells_one _) w.heap.size w hal (Nat.le_refl _) ?_; intro w2 hw2 hb2)
      have hM2 : Made w2 w.heap.size (digs p ++ [0]) := by
        have h9 := hw2.out
        unfold Made
        rw [h9]
        congr 2
        unfold splice
        rw [List.take_zero, List.nil_append, Nat.zero_add, digCells_length, HLN.out, digCells_drop, List.drop_replicate, show n' + 1 - n' = 1 by omega, ← digCells_append]
        rfl
      have hR0 : MulRel w (n' + 1) (digs p ++ [0]) w2 := ⟨hM2, by rw [List.length_append, HLN.out]; rfl, (digs_lt32 p).append (Lt32.cons (by omega) Lt32.nil), hb2⟩
      have hv0 : val (digs p ++ [0]) = p := by rw [val_append, val_digs]; simp [val_cons, val_nil]
      have HR0 := Lib.hid hR0
      have HV0 := Lib.hid hv0
      clear hw2 hM2 hR0 hv0 HM1 HSRC HF0 HN0 hmk hal hb2
      have hdg := HR0.out.made.dig HR0.out.lt (by rw [HR0.out.len]; omega) B
      rw [HR0.out.len] at hdg
      have HP2 := Lib.hid (show p * 2 ^ s = p by rw [← HTS.out, HT0.out]; simp)
      go_wp2_with fail
      refine (trim_any B _ _ _ _ _ hdg).mono ?_
      rw [HV0.out]
      rintro e w3 ⟨A3, n3, c3, rfl, h3, rfl⟩
      go_wp2
      go_ret
      exact ⟨A3, n3, c3, rfl, by rw [HP2.out]; exact h3, HR0.out.below⟩
    · have ht0 : decide (0 < t) = true := by rw [decide_eq_true_eq]; omega
      go_upto_region 7 with (fail)
      go_wp2_with (refine wpList_copy_splice (o := ⟨some 33, _, _, _, _, _⟩) rfl (.tmp 31) (.tmp 32) 51 51 rfl 83 Tryz.underlying51 hu32 (some ⟨w.heap.size, 0, none⟩) (some ad) (n' + 1) (n' + 1) n' c' rfl rfl w.heap.size 0 (digCells (List.replicate (n' + 1) 0)) 83 HM1.out (digCells (digs p)) HN0.out (fun _ => ⟨rfl, ad, rfl, HSRC.out⟩) HF0.out (digCells_one _) w.heap.size w hal (Nat.le_refl _) ?_; intro w2 hw2 hb2)
      have hM2 : Made w2 w.heap.size (digs p ++ [0]) := by
        have h9 := hw2.out
        unfold Made
        rw [h9]
        congr 2
        unfold splice
        rw [List.take_zero, List.nil_append, Nat.zero_add, digCells_length, HLN.out, digCells_drop, List.drop_replicate, show n' + 1 - n' = 1 by omega, ← digCells_append]
        rfl
      have hR0 : MulRel w (n' + 1) (digs p ++ [0]) w2 := ⟨hM2, by rw [List.length_append, HLN.out]; rfl, (digs_lt32 p).append (Lt32.cons (by omega) Lt32.nil), hb2⟩
      have hv0 : val (digs p ++ [0]) = p := by rw [val_append, val_digs]; simp [val_cons, val_nil]
      have HR0 := Lib.hid hR0
      have HV0 := Lib.hid hv0
      clear hw2 hM2 hR0 hv0 HM1 HSRC HF0 HN0 hmk hal hb2
      go_wp2_with fail
      go_loopw [8, 9] (fun lv i wr => ∃ (k l : Nat) (zs : List Nat), k ≤ n' + 1 ∧ i = .int .i64 k ∧ lv = .int .u32 l ∧ l < 2 ^ t ∧ MulRel w (n' + 1) zs wr ∧ Hid (zs.drop k = (digs p ++ [0]).drop k ∧ val (zs.take k) + bp k * l = 2 ^ t * val ((digs p ++ [0]).take k))) (fun _ i _ => n' + 1 - (intOf i).toNat)
      case atStart => exact ⟨0, 0, _, Nat.zero_le _, rfl, rfl, Nat.pow_pos (by omega), HR0.out, Lib.hid ⟨rfl, by simp [val_nil]⟩⟩
      case round =>
        obtain ⟨k, l, zs, hk, rfl, rfl, hl, hR, HV⟩ := hrel
        by_cases hkn : k < n' + 1
        · have hout := hR.made.cell (k := k) (by rw [hR.len]; omega)
          have houtf := hR.made.frozen k
          have hx32 := hR.lt k
          have i0 : (0 : Int) ≤ (k : Int) := by omega
          have i1 : (k : Int) < (n' : Int) + 1 := by omega
          obtain ⟨y, m, ⟨e1, e2, e3⟩, hyl, hm, he⟩ := shl_digit (dg zs k) t l hx32 ht32 hl
          have HRN := Lib.hid (shl_round (zs := zs) (ys := digs p ++ [0]) (k := k) (l := l) (t := t) (y := y) (m := m) (by rw [hR.len]; exact hkn) (by rw [List.length_append, HLN.out]; exact hkn) HV.out.1 HV.out.2 he)
          have HR2 := Lib.hid (hR.step k (y + l) hyl)
          generalize dg zs k = x at *
          clear he hR HV
          go_wp2
          go_roundw
          case rel => exact ⟨k + 1, m, zs.set k (y + l), by omega, by go_num, rfl, hm, HR2.out, HRN⟩
          case measure => simp [intOf]; omega
        · obtain rfl : k = n' + 1 := by omega
          have hv9 := HV.out.2
          rw [List.take_of_length_le (by rw [hR.len]; exact Nat.le_refl _), List.take_of_length_le (by rw [HR0.out.len]; exact Nat.le_refl _), HV0.out] at hv9
          have HQ := Lib.hid (show val zs = p * 2 ^ s by rw [← HTS.out]; exact shl_done ht32 (by have h9 := lt_bp_digs p; rw [HLN.out] at h9; exact h9) hv9)
          have hdg := hR.made.dig hR.lt (by rw [hR.len]; omega) B
          rw [hR.len] at hdg
          have HB := Lib.hid hR.below
          clear hv9 hR HV
          go_wp2_with fail
          refine (trim_any B _ _ _ _ _ hdg).mono ?_
          rw [HQ.out]
          rintro e w3 ⟨A3, n3, c3, rfl, h3, rfl⟩
          go_wp2
          go_ret
          exact ⟨A3, n3, c3, rfl, h3, HB.out⟩
end Go.Proofs.YtnknidfpkmnncaaGreat
/- natural.Shr below 32. -/
namespace Go.Proofs.YtnknidfpkmnncaaGreat
open Go.RowKit

/-- One digit, moved down. -/
theorem shr_digit (x q t : Nat) (hx : x < 4294967296) (_hq : q < 4294967296) (ht : t < 32) :
    ∃ h y : Nat, ((q : Int) * 2 ^ (32 - t) % 4294967296 = (h : Int) ∧ (x : Int) / 2 ^ t = (y : Int) ∧ bits .or .u32 (y : Int) (h : Int) = ((y + h : Nat) : Int) ∧ bits .or .u32 (y : Int) 0 = (y : Int)) ∧ y + h < 4294967296 ∧ y * 2 ^ t + x % 2 ^ t = x ∧ h * 2 ^ t = 4294967296 * (q % 2 ^ t) ∧ h < 4294967296 := by
  have hp : (4294967296 : Nat) = 2 ^ (32 - t) * 2 ^ t := by rw [← Nat.pow_add, show 32 - t + t = 32 by omega]
  have hh : q * 2 ^ (32 - t) % 4294967296 = 2 ^ (32 - t) * (q % 2 ^ t) := by rw [Nat.mul_comm q, hp, Nat.mul_mod_mul_left]
  have hlt : q % 2 ^ t < 2 ^ t := Nat.mod_lt _ (Nat.pow_pos (by omega))
  have hyl : x / 2 ^ t < 2 ^ (32 - t) := by rw [Nat.div_lt_iff_lt_mul (Nat.pow_pos (by omega)), ← hp]; exact hx
  have hsum : x / 2 ^ t + 2 ^ (32 - t) * (q % 2 ^ t) < 4294967296 := by
    have h1 : 2 ^ (32 - t) * (q % 2 ^ t + 1) ≤ 2 ^ (32 - t) * 2 ^ t := Nat.mul_le_mul_left _ hlt
    rw [Nat.mul_add, Nat.mul_one] at h1
    omega
  have hy32 : x / 2 ^ t < 4294967296 := Nat.lt_of_le_of_lt (Nat.div_le_self _ _) hx
  refine ⟨q * 2 ^ (32 - t) % 4294967296, x / 2 ^ t, ⟨?_, ?_, ?_, ?_⟩, ?_, ?_, ?_, ?_⟩
  · rw [show ((q : Int) * 2 ^ (32 - t)) = ((q * 2 ^ (32 - t) : Nat) : Int) by simp]; omega
  · simp
  · rw [hh, u32_or_nat _ _ hy32 (by omega), Nat.or_comm, or_low _ _ _ hyl, Nat.add_comm]
  · have := u32_or_nat (x / 2 ^ t) 0 hy32 (by omega)
    simpa using this
  · rw [hh]; exact hsum
  · rw [Nat.mul_comm]; exact Nat.div_add_mod x (2 ^ t)
  · rw [hh, hp, Nat.mul_assoc, Nat.mul_comm (q % 2 ^ t), ← Nat.mul_assoc]
  · exact Nat.mod_lt _ (by omega)
theorem shr_round {zs xs : List Nat} {k t y h r : Nat} (hz : k < zs.length) (hx : k < xs.length) (hd : zs.drop k = xs.drop k) (hv : val (zs.take k) * 2 ^ t + r = val (xs.take k) + bp k * (dg xs k % 2 ^ t)) (e1 : y * 2 ^ t + dg xs k % 2 ^ t = dg xs k) (e2 : h * 2 ^ t = 4294967296 * (dg xs (k + 1) % 2 ^ t)) :
    (zs.set k (y + h)).drop (k + 1) = xs.drop (k + 1) ∧ val ((zs.set k (y + h)).take (k + 1)) * 2 ^ t + r = val (xs.take (k + 1)) + bp (k + 1) * (dg xs (k + 1) % 2 ^ t) := by
  constructor
  · rw [List.drop_set_of_lt (by omega)]
    have h1 := congrArg (List.drop 1) hd
    rw [List.drop_drop, List.drop_drop] at h1
    exact h1
  · rw [val_take_succ _ k (by simpa using hz), val_take_succ xs k hx, take_set_of_le _ _ _ _ (Nat.le_refl _), dg_set, if_pos ⟨rfl, hz⟩, bp_succ]
    have e3 : bp k * (y + h) * 2 ^ t = bp k * (y * 2 ^ t) + bp k * (h * 2 ^ t) := by rw [Nat.mul_assoc, Nat.add_mul, Nat.mul_add]
    have e4 : bp k * (y * 2 ^ t) + bp k * (dg xs k % 2 ^ t) = bp k * dg xs k := by rw [← Nat.mul_add, e1]
    have e5 : bp k * (h * 2 ^ t) = 4294967296 * bp k * (dg xs (k + 1) % 2 ^ t) := by rw [e2, ← Nat.mul_assoc, Nat.mul_comm (bp k)]
    rw [Nat.add_mul, e3]
    omega
theorem shr_done {v p t r : Nat} (h : v * 2 ^ t + r = p) (hr : r < 2 ^ t) : v = p / 2 ^ t := by
  rw [← h, Nat.mul_comm, Nat.mul_add_div (Nat.pow_pos (by omega)), Nat.div_eq_of_lt hr, Nat.add_zero]

/-- A row of digits of the call's own. -/
structure OwnD (w : World) (g n cap : Nat) (zs : List Nat) (wr : World) : Prop where
  own : wr.ownsRow w.heap.size 83 1 (.slice (some ⟨g, 0, none⟩) n cap) n (digCells zs)
  lt : Lt32 zs
  below : Below w.heap.size w wr
theorem OwnD.len {w : World} {g n cap : Nat} {zs : List Nat} {wr : World} (h : OwnD w g n cap zs wr) : zs.length = n := by
  have := h.own.1
  rw [digCells_length] at this
  omega
theorem OwnD.form {w : World} {g n cap : Nat} {zs : List Nat} {wr : World} (h : OwnD w g n cap zs wr) : ∃ cur : Array Value, w.heap.size ≤ g ∧ wr.heap[g]? = some (.cells cur 83 (0, 0)) ∧ n ≤ cap ∧ cap ≤ maxLen ∧ cur.size = cap ∧ cur.toList.take n = digCells zs := by
  rcases h.own.2 with ⟨he, _⟩ | ⟨g', cap', cur, he, hb, hh, hn, hm, hsz, ht⟩
  · cases he
  · injection he with he h2 h3
    injection he with he
    injection he with he _ _
    subst he h3
    exact ⟨cur, hb, hh, hn, hm, by simpa using hsz, by simpa using ht⟩
theorem OwnD.cell {w : World} {g n cap : Nat} {zs : List Nat} {wr : World} (h : OwnD w g n cap zs wr) {k : Nat} (hk : k < n) : wr.cell? ⟨g, k, none⟩ = some (.int .u32 ((dg zs k : Nat) : Int)) := by
  obtain ⟨cur, _, hh, _, _, _, ht⟩ := h.form
  rw [cell_of_row _ _ k _ _ _ hh]
  have h1 := digCells_at (xs := zs) (k := k) (by rw [h.len]; exact hk)
  rw [← ht, List.getElem?_take, if_pos hk] at h1
  simpa using h1
theorem OwnD.frozen {w : World} {g n cap : Nat} {zs : List Nat} {wr : World} (h : OwnD w g n cap zs wr) (k : Nat) : wr.frozen? ⟨g, k, none⟩ = false := by
  obtain ⟨cur, _, hh, _⟩ := h.form
  simp [World.frozen?, hh]
theorem OwnD.step {w : World} {g n cap : Nat} {zs : List Nat} {wr : World} (h : OwnD w g n cap zs wr) {k v : Nat} (hv : v < 4294967296) : OwnD w g n cap (zs.set k v) (wr.setCell ⟨g, k, none⟩ (.int .u32 v)) := by
  obtain ⟨cur, hb, hh, hn, hm, hsz, ht⟩ := h.form
  have hl := h.len
  refine ⟨⟨by rw [digCells_length, List.length_set, hl]; omega, .inr ⟨g, cap, cur.setIfInBounds k (.int .u32 v), rfl, hb, ?_, hn, hm, by simpa using hsz, ?_⟩⟩, h.lt.set k hv, h.below.setCell hb _⟩
  · simp [World.setCell, Array.getElem?_modify, hh]
  · have : digCells (zs.set k v) = (digCells zs).set k (.int .u32 (v : Int)) := by unfold digCells; rw [List.map_set]
    rw [this, ← ht, Nat.mul_one]
    simp [List.take_set]
theorem OwnD.dig {w : World} {g n cap : Nat} {zs : List Nat} {wr : World} (h : OwnD w g n cap zs wr) (B : Nat) : Dig B wr (some ⟨g, 0, none⟩) n cap zs := Dig.of_own h.own h.lt

set_option maxRecDepth 100000 in
set_option maxHeartbeats 4000000 in
theorem shr_any (B : Nat) (A : Option Addr) (n c : Nat) (xs : List Nat) (s : Nat) (w : World) (hx : Dig B w A n c xs) (hn : n ≤ 1073741824) (hs : s < 32) :
    Calls Tryz.prog 111 #[.slice A n c, .int .i64 s] w (NatP B (val xs / 2 ^ s) w) := by
  obtain ⟨i0, hi, hz0, hz1, hz2⟩ := info_parts u32info
  have hxl := digs_len_of hx
  have q1 : (s : Int) / 32 = 0 := by omega
  obtain ⟨t, ht⟩ : ∃ t, t = s := ⟨_, rfl⟩
  have q2 : (s : Int) % 32 = (t : Int) := by omega
  have ht32 : t < 32 := by omega
  have HTS := Lib.hid ht
  clear ht
  have q3 : max (s : Int) 0 = (s : Int) := by omega
  go_enter Tryz.func111, Tryz.ntmps111
  go_wp2_with fail
  refine (trim_any B _ _ _ _ _ hx).mono ?_
  rintro e w' ⟨A', n', c', rfl, h', rfl⟩
  have hbd := h'.bd
  have hcap := h'.cap
  have hn' : n' ≤ 1073741824 := by have := h'.len; omega
  clear hx hxl
  generalize val xs = p at *
  rcases Nat.eq_zero_or_pos n' with h0 | h0
  · have hp : p = 0 := digs_eq_nil.1 (List.eq_nil_of_length_eq_zero (by rw [h'.len]; exact h0))
    have HP := Lib.hid hp
    have h0' : (n' : Int) ≤ 0 := by omega
    clear h0 hp
    go_wp2
    go_ret
    exact ⟨none, 0, 0, rfl, by rw [HP.out, Nat.zero_div, digs_zero]; exact Dig.nil, Below.refl _ _⟩
  · have h0' : ¬ ((n' : Int) ≤ 0) := by omega
    have HLN := Lib.hid h'.len
    have HD := Lib.hid h'
    rcases Nat.eq_zero_or_pos t with h00 | h00
    · have ht0 : decide (0 < t) = false := by rw [decide_eq_false_iff_not]; omega
      have HT0 := Lib.hid h00
      clear h00
      go_upto_region 6 with (fail)
      go_wp2_with (at_builtin; refine wpList_append_row _ rfl _ _ 51 rfl w.heap.size 83 i0 (.int .u32 0) 1 4 Tryz.underlying51 hi hz0 hz1 hz2 rfl (by decide) (.slice none 0 0) 0 [] rfl (World.ownsRow_nil _ _ _ _) B _ A' n' c' (digCells (digs p)) rfl HD.out.row (digCells_one _) (by simp only [maxLen]; omega) (by omega) (Nat.le_refl _) ?_; intro v1 w1 hown hg _; rw [Nat.zero_add, List.nil_append] at hown; obtain ⟨g, cap, rfl, hgB, hgl⟩ := hown.form h0; have hO : OwnD w g n' cap (digs p) w1 := ⟨hown, digs_lt32 p, (Below.refl _ _).grown hg (Nat.le_refl _) (by simp [Value.ownBlock])⟩; clear hown hg)
      have hdg := hO.dig B
      have HB := Lib.hid hO.below
      have HQ := Lib.hid (show val (digs p) = p / 2 ^ s by rw [val_digs, ← HTS.out, HT0.out]; simp)
      clear hO
      refine (trim_any B _ _ _ _ _ hdg).mono ?_
      rw [HQ.out]
      rintro e w3 ⟨A3, n3, c3, rfl, h3, rfl⟩
      go_wp2
      go_ret
      exact ⟨A3, n3, c3, rfl, h3, HB.out⟩
    · have ht0 : decide (0 < t) = true := by rw [decide_eq_true_eq]; omega
      go_upto_region 6 with (fail)
      go_wp2_with (at_builtin; refine wpList_append_row _ rfl _ _ 51 rfl w.heap.size 83 i0 (.int .u32 0) 1 4 Tryz.underlying51 hi hz0 hz1 hz2 rfl (by decide) (.slice none 0 0) 0 [] rfl (World.ownsRow_nil _ _ _ _) B _ A' n' c' (digCells (digs p)) rfl HD.out.row (digCells_one _) (by simp only [maxLen]; omega) (by omega) (Nat.le_refl _) ?_; intro v1 w1 hown hg _; rw [Nat.zero_add, List.nil_append] at hown; obtain ⟨g, cap, rfl, hgB, hgl⟩ := hown.form h0; have hO : OwnD w g n' cap (digs p) w1 := ⟨hown, digs_lt32 p, (Below.refl _ _).grown hg (Nat.le_refl _) (by simp [Value.ownBlock])⟩; clear hown hg)
      go_loopw [30] (fun i wr => ∃ (k : Nat) (zs : List Nat), k ≤ n' ∧ i = .int .i64 k ∧ OwnD w g n' cap zs wr ∧ Hid (zs.drop k = (digs p).drop k ∧ val (zs.take k) * 2 ^ t + dg (digs p) 0 % 2 ^ t = val ((digs p).take k) + bp k * (dg (digs p) k % 2 ^ t))) (fun i _ => n' - (intOf i).toNat)
      case atStart => exact ⟨0, _, Nat.zero_le _, rfl, hO, Lib.hid ⟨rfl, by simp [val_nil, bp_zero]⟩⟩
      case round =>
        clear hO
        obtain ⟨k, zs, hk, rfl, hO, HV⟩ := hrel
        by_cases hkn : k < n'
        · have hout := hO.cell hkn
          have houtf := hO.frozen k
          have hzx : dg zs k = dg (digs p) k := by
            have h1 := dg_drop zs k 0
            have h2 := dg_drop (digs p) k 0
            rw [HV.out.1, h2] at h1
            simpa using h1.symm
          have hzx1 : dg zs (k + 1) = dg (digs p) (k + 1) := by
            have h1 := dg_drop zs k 1
            have h2 := dg_drop (digs p) k 1
            rw [HV.out.1, h2] at h1
            exact h1.symm
          have hx32 := HD.out.dig k
          have hq32 := HD.out.dig (k + 1)
          have i0' : (0 : Int) ≤ (k : Int) := by omega
          have i1 : (k : Int) < (n' : Int) := by omega
          obtain ⟨hh, y, ⟨e1, e2, e3, e4⟩, hyl, h1, h2, hh32⟩ := shr_digit (dg (digs p) k) (dg (digs p) (k + 1)) t hx32 hq32 ht32
          have HRN := Lib.hid (shr_round (zs := zs) (xs := digs p) (k := k) (t := t) (y := y) (h := hh) (by rw [hO.len]; exact hkn) (by rw [HLN.out]; exact hkn) HV.out.1 HV.out.2 h1 h2)
          have HO2 := Lib.hid (hO.step (k := k) hyl)
          rw [hzx] at hout
          by_cases hk1 : k + 1 < n'
          · have hout1 := hO.cell hk1
            rw [hzx1] at hout1
            have i2 : (k : Int) + 1 < (n' : Int) := by omega
            have i3 : (0 : Int) ≤ (k : Int) + 1 := by omega
            generalize dg (digs p) k = x at hout e2 hx32
            generalize dg (digs p) (k + 1) = q at hout1 e1 hq32
            clear h1 h2 hzx hzx1 hO HV
            go_wp2
            go_roundw
            case rel => exact ⟨k + 1, _, by omega, by go_num, HO2.out, HRN⟩
            case measure => simp [intOf]; omega
          · have hq0 : dg (digs p) (k + 1) = 0 := dg_beyond _ _ (by rw [HLN.out]; omega)
            have hhz : hh = 0 := by
              rw [hq0] at e1
              have : ((0 : Nat) : Int) * 2 ^ (32 - t) % 4294967296 = 0 := by simp
              omega
            have HRN2 := Lib.hid (show (zs.set k y).drop (k + 1) = (digs p).drop (k + 1) ∧ val ((zs.set k y).take (k + 1)) * 2 ^ t + dg (digs p) 0 % 2 ^ t = val ((digs p).take (k + 1)) + bp (k + 1) * (dg (digs p) (k + 1) % 2 ^ t) by
              have h9 := HRN.out
              rw [hhz] at h9
              exact h9)
            have HO3 := Lib.hid (hO.step (k := k) (v := y) (by omega))
            have i2 : ¬ ((k : Int) + 1 < (n' : Int)) := by omega
            generalize dg (digs p) k = x at hout e2 hx32
            clear h1 h2 hzx hzx1 hO HV hq0 hhz e1 e3 HRN HO2
            go_wp2
            go_roundw
            case rel => exact ⟨k + 1, _, by omega, by go_num, HO3.out, HRN2⟩
            case measure => simp [intOf]; omega
        · obtain rfl : k = n' := by omega
          have hv9 := HV.out.2
          rw [List.take_of_length_le (by rw [hO.len]; exact Nat.le_refl _), List.take_of_length_le (by rw [HLN.out]; exact Nat.le_refl _), dg_beyond (digs p) k (by rw [HLN.out]; exact Nat.le_refl _), Nat.zero_mod, Nat.mul_zero, Nat.add_zero, val_digs] at hv9
          have HQ := Lib.hid (show val zs = p / 2 ^ s by rw [← HTS.out]; exact shr_done hv9 (Nat.mod_lt _ (Nat.pow_pos (by omega))))
          have hdg := hO.dig B
          have HB := Lib.hid hO.below
          clear hv9 hO HV
          go_wp2_with fail
          refine (trim_any B _ _ _ _ _ hdg).mono ?_
          rw [HQ.out]
          rintro e w3 ⟨A3, n3, c3, rfl, h3, rfl⟩
          go_wp2
          go_ret
          exact ⟨A3, n3, c3, rfl, h3, HB.out⟩
end Go.Proofs.YtnknidfpkmnncaaGreat
/- Plain laws of Knuth's long division. -/
namespace Go.Proofs.YtnknidfpkmnncaaGreat
open Go.RowKit

theorem dg_le_val (xs : List Nat) (k : Nat) : bp k * dg xs k ≤ val xs := by
  by_cases h : k < xs.length
  · rw [val_take_drop xs k (by omega), val_drop xs k h, Nat.mul_add]
    omega
  · rw [dg_beyond _ _ (by omega)]
    omega
theorem dg_zero_of_lt {xs : List Nat} {m k : Nat} (h : val xs < bp m) (hk : m ≤ k) : dg xs k = 0 := by
  have h1 := dg_le_val xs k
  have h2 := bp_mono hk
  rcases Nat.eq_zero_or_pos (dg xs k) with h0 | h0
  · exact h0
  · have h3 : bp k * 1 ≤ bp k * dg xs k := Nat.mul_le_mul_left _ h0
    omega
theorem val_zeros {xs : List Nat} (h : ∀ k, dg xs k = 0) : val xs = 0 := by
  induction xs with
  | nil => rfl
  | cons x t ih =>
    rw [val_cons, ih (fun k => h (k + 1)), show x = 0 from h 0]
theorem val_lt_zeros {xs : List Nat} {m : Nat} (hl : Lt32 xs) (h : ∀ k, m ≤ k → dg xs k = 0) : val xs < bp m := by
  by_cases hm : m ≤ xs.length
  · rw [val_take_drop xs m hm, val_zeros (xs := xs.drop m) (fun k => by rw [dg_drop]; exact h _ (by omega)), Nat.mul_zero, Nat.add_zero]
    have := val_lt (hl.take m)
    rw [List.length_take, Nat.min_eq_left hm] at this
    exact this
  · exact Nat.lt_of_lt_of_le (val_lt hl) (bp_mono (by omega))
theorem val_take_lt {xs : List Nat} (h : Lt32 xs) (m : Nat) : val (xs.take m) < bp m :=
  Nat.lt_of_lt_of_le (val_lt (h.take m)) (bp_mono (by rw [List.length_take]; exact Nat.min_le_left _ _))
/-- The three highest digits of a number. -/
theorem val_top3 {xs : List Nat} {m : Nat} (hl : Lt32 xs) (h : val xs < bp (m + 3)) :
    ∃ low, low < bp m ∧ val xs = ((dg xs (m + 2) * 4294967296 + dg xs (m + 1)) * 4294967296 + dg xs m) * bp m + low := by
  have e : val xs = val (xs.take (m + 3)) := by
    by_cases hm : m + 3 ≤ xs.length
    · rw [val_take_drop xs (m + 3) hm, val_zeros (xs := xs.drop (m + 3)) (fun k => by rw [dg_drop]; exact dg_zero_of_lt h (by omega)), Nat.mul_zero, Nat.add_zero]
    · rw [val_take_all _ _ (by omega)]
  refine ⟨val (xs.take m), val_take_lt hl m, ?_⟩
  rw [e, val_take_succ_any, val_take_succ_any, val_take_succ_any, bp_succ (m + 1), bp_succ m]
  generalize dg xs (m + 2) = a
  generalize dg xs (m + 1) = b
  generalize dg xs m = c
  generalize bp m = d
  have e1 : 4294967296 * d * b = b * 4294967296 * d := by rw [Nat.mul_comm, Nat.mul_assoc]
  have e2 : 4294967296 * (4294967296 * d) * a = a * 4294967296 * 4294967296 * d := by rw [Nat.mul_comm, Nat.mul_assoc, Nat.mul_assoc]
  rw [Nat.add_mul, Nat.add_mul, Nat.add_mul, Nat.mul_comm c d, e1, e2]
  omega
theorem val_top2 {xs : List Nat} {m : Nat} (hl : Lt32 xs) (h : val xs < bp (m + 2)) :
    ∃ low, low < bp m ∧ val xs = (dg xs (m + 1) * 4294967296 + dg xs m) * bp m + low := by
  have h3 : dg xs (m + 2) = 0 := dg_zero_of_lt h (Nat.le_refl _)
  obtain ⟨low, h1, h2⟩ := val_top3 (m := m) hl (Nat.lt_of_lt_of_le h (bp_mono (by omega)))
  refine ⟨low, h1, ?_⟩
  rw [h3] at h2
  rw [h2]
  simp

/-- What is known of a digit's guess: U the number, P the divisor moved to the digit's place, top and next the divisor's highest digits, E the place of the number's third digit. -/
structure Guess (U P E top next x2 x1 x0 : Nat) : Prop where
  e : 0 < E
  u : ∃ low, low < E ∧ U = ((x2 * 4294967296 + x1) * 4294967296 + x0) * E + low
  p : ∃ low, low < E ∧ P = (top * 4294967296 + next) * E + low
  lt : U < 4294967296 * P
  t0 : 0 < top
  t : top < 4294967296
  n : next < 4294967296
  a1 : x1 < 4294967296
  a0 : x0 < 4294967296
  a2 : x2 < 4294967296

section
variable {U P E top next x2 x1 x0 : Nat}
theorem Guess.x2_le (h : Guess U P E top next x2 x1 x0) : x2 ≤ top := by
  obtain ⟨l, hl, hu⟩ := h.u
  obtain ⟨k, hk, hp⟩ := h.p
  have hlt := h.lt
  have hn := h.n
  rcases Nat.lt_or_ge top x2 with hc | hc
  · exfalso
    have h1 : P ≤ (top + 1) * 4294967296 * E := by
      have h2 : (top * 4294967296 + next + 1) * E ≤ (top + 1) * 4294967296 * E := Nat.mul_le_mul_right _ (by omega)
      rw [Nat.add_mul _ 1 E, Nat.one_mul] at h2
      omega
    have h3 : (top + 1) * 4294967296 * 4294967296 * E ≤ U := by
      have h4 : (top + 1) * 4294967296 * 4294967296 * E ≤ ((x2 * 4294967296 + x1) * 4294967296 + x0) * E := Nat.mul_le_mul_right _ (by omega)
      omega
    have h5 : (top + 1) * 4294967296 * 4294967296 * E = 4294967296 * ((top + 1) * 4294967296 * E) := by
      rw [Nat.mul_right_comm _ 4294967296 E, Nat.mul_comm]
    rw [h5] at h3
    omega
  · exact hc
theorem Guess.start (h : Guess U P E top next x2 x1 x0) : U < ((x2 * 4294967296 + x1) / top + 1) * P := by
  obtain ⟨l, hl, hu⟩ := h.u
  obtain ⟨k, hk, hp⟩ := h.p
  have h0 := h.a0
  have ht := h.t0
  obtain ⟨X, hX⟩ : ∃ X, X = x2 * 4294967296 + x1 := ⟨_, rfl⟩
  rw [← hX] at hu ⊢
  clear hX
  have h1 : X < (X / top + 1) * top := by
    have := Nat.div_add_mod X top
    have := Nat.mod_lt X ht
    rw [Nat.add_mul, Nat.one_mul, Nat.mul_comm (X / top)]
    omega
  generalize X / top + 1 = g at *
  have h2 : (X * 4294967296 + x0 + 1) * E ≤ (g * top * 4294967296) * E := Nat.mul_le_mul_right _ (by omega)
  have h3 : (g * top * 4294967296) * E ≤ g * P := by
    have h4 : g * top * 4294967296 * E = g * (top * 4294967296 * E) := by ac_rfl
    rw [hp, h4]
    refine Nat.mul_le_mul_left g ?_
    rw [Nat.add_mul]
    exact Nat.le_trans (Nat.le_add_right _ _) (Nat.le_add_right _ _)
  rw [Nat.add_mul _ 1 E, Nat.one_mul] at h2
  omega
theorem Guess.step_big (h : Guess U P E top next x2 x1 x0) {g : Nat} (hg : 4294967296 ≤ g) : U < (g - 1 + 1) * P := by
  have := h.lt
  have h1 : 4294967296 * P ≤ g * P := Nat.mul_le_mul_right _ hg
  rw [Nat.sub_add_cancel (by omega)]
  omega
theorem Guess.step (h : Guess U P E top next x2 x1 x0) {g r : Nat} (he : g * top + r = x2 * 4294967296 + x1) (hc : r * 4294967296 + x0 < g * next) : 0 < g ∧ U < (g - 1 + 1) * P := by
  obtain ⟨l, hl, hu⟩ := h.u
  obtain ⟨k, hk, hp⟩ := h.p
  have hg : 0 < g := by
    rcases Nat.eq_zero_or_pos g with h0 | h0
    · rw [h0, Nat.zero_mul] at hc; omega
    · exact h0
  refine ⟨hg, ?_⟩
  rw [Nat.sub_add_cancel hg]
  have h1 : (x2 * 4294967296 + x1) * 4294967296 + x0 + 1 ≤ g * (top * 4294967296 + next) := by
    rw [← he, Nat.mul_add, ← Nat.mul_assoc]
    omega
  have h2 : ((x2 * 4294967296 + x1) * 4294967296 + x0 + 1) * E ≤ g * (top * 4294967296 + next) * E := Nat.mul_le_mul_right _ h1
  have h3 : g * (top * 4294967296 + next) * E ≤ g * P := by
    rw [hp, Nat.mul_assoc]
    exact Nat.mul_le_mul_left g (Nat.le_add_right _ _)
  rw [Nat.add_mul _ 1 E, Nat.one_mul] at h2
  omega
theorem Guess.stop (h : Guess U P E top next x2 x1 x0) {g r : Nat} (he : g * top + r = x2 * 4294967296 + x1) (hg : g < 4294967296) (hc : g * next ≤ r * 4294967296 + x0) : g * P < U + P := by
  obtain ⟨l, hl, hu⟩ := h.u
  obtain ⟨k, hk, hp⟩ := h.p
  have ht := h.t0
  have h1 : g * (top * 4294967296 + next) ≤ (x2 * 4294967296 + x1) * 4294967296 + x0 := by
    rw [← he, Nat.mul_add, ← Nat.mul_assoc]
    omega
  have h2 : g * (top * 4294967296 + next) * E ≤ ((x2 * 4294967296 + x1) * 4294967296 + x0) * E := Nat.mul_le_mul_right _ h1
  have h3 : g * P = g * (top * 4294967296 + next) * E + g * k := by rw [hp, Nat.mul_add, Nat.mul_assoc]
  have h4 : g * k ≤ 4294967295 * k := Nat.mul_le_mul_right _ (by omega)
  have h5 : 1 * 4294967296 * E ≤ (top * 4294967296 + next) * E := Nat.mul_le_mul_right _ (by omega)
  omega
theorem Guess.left (h : Guess U P E top next x2 x1 x0) {g r : Nat} (he : g * top + r = x2 * 4294967296 + x1) (hr : 4294967296 ≤ r) : g < 4294967296 ∧ g * next ≤ r * 4294967296 + x0 := by
  have h1 := h.x2_le
  have h2 := h.a1
  have h3 := h.n
  have hg : g < 4294967296 := by
    rcases Nat.lt_or_ge g 4294967296 with hc | hc
    · exact hc
    · exfalso
      have h4 : 4294967296 * top ≤ g * top := Nat.mul_le_mul_right _ hc
      omega
  refine ⟨hg, ?_⟩
  have h5 : g * next ≤ 4294967296 * 4294967296 := Nat.mul_le_mul (by omega) (by omega)
  have h6 : 4294967296 * 4294967296 ≤ r * 4294967296 := Nat.mul_le_mul_right _ hr
  omega
theorem guess_quot {g : Nat} (h1 : U < (g + 1) * P) (h2 : g * P < U + P) : g = U / P ∨ g = U / P + 1 := by
  have hP : 0 < P := by
    rcases Nat.eq_zero_or_pos P with h0 | h0
    · subst h0; omega
    · exact h0
  have h3 : U / P < g + 1 := by rw [Nat.div_lt_iff_lt_mul hP]; exact h1
  have h4 : g < U / P + 2 := by
    rcases Nat.lt_or_ge g (U / P + 2) with hc | hc
    · exact hc
    · exfalso
      have h5 : (U / P + 2) * P ≤ g * P := Nat.mul_le_mul_right _ hc
      have h6 := Nat.div_add_mod U P
      have h7 := Nat.mod_lt U hP
      rw [Nat.add_mul, Nat.mul_comm (U / P)] at h5
      omega
  omega
/-- The number less the guess's multiple, the borrow that is left tells which. -/
theorem guess_ok {g v M tb : Nat} (hq : g = U / P ∨ g = U / P + 1) (hP : 0 < P) (hM : v < M) (he : v + g * P = U + M * tb) : (tb = 0 → g = U / P ∧ v = U % P) ∧ (tb = 1 → g = U / P + 1) := by
  have h6 := Nat.div_add_mod U P
  have h7 := Nat.mod_lt U hP
  rw [Nat.mul_comm] at h6
  generalize U / P = q at *
  generalize U % P = r at *
  constructor
  · rintro rfl
    rcases hq with rfl | rfl
    · exact ⟨rfl, by omega⟩
    · exfalso
      rw [Nat.add_mul, Nat.one_mul] at he
      omega
  · rintro rfl
    rcases hq with rfl | rfl
    · exfalso
      omega
    · rfl
theorem guess_back {v v2 M h : Nat} (hM : P < M) (hv : v2 < M) (hP : 0 < P) (he : v + (U / P + 1) * P = U + M) (h2 : v2 + M * h = v + P) : v2 = U % P := by
  have h6 := Nat.div_add_mod U P
  have h7 := Nat.mod_lt U hP
  rw [Nat.mul_comm] at h6
  generalize U / P = q at *
  generalize U % P = r at *
  rw [Nat.add_mul, Nat.one_mul] at he
  have h8 : v2 + M * h = r + M := by omega
  rcases h with _ | _ | h
  · omega
  · omega
  · rw [show M * (h + 1 + 1) = M * h + M + M by rw [Nat.mul_add, Nat.mul_add, Nat.mul_one]] at h8
    omega
end

/-- A difference in 64 bits. -/
theorem sub64_digit (x b y : Nat) (hx : x < 4294967296) (hb : b ≤ 1) (hy : y < 4294967296) :
    ∃ T s tb : Nat, (IntKind.u64.wrap (IntKind.u64.wrap ((x : Int) - (b : Int)) - (y : Int)) = (T : Int) ∧ (T : Int) % 4294967296 = (s : Int) ∧ (T : Int) / 9223372036854775808 = (tb : Int)) ∧ s < 4294967296 ∧ tb ≤ 1 ∧ s + y + b = x + 4294967296 * tb ∧ T < 18446744073709551616 := by
  rcases Nat.lt_or_ge x (b + y) with h | h
  · refine ⟨x + 18446744073709551616 - b - y, x + 4294967296 - b - y, 1, ⟨?_, ?_, ?_⟩, ?_, ?_, ?_, ?_⟩
    · rw [IntKind.wrap_u64, IntKind.wrap_u64]; omega
    · omega
    · omega
    · omega
    · omega
    · omega
    · omega
  · refine ⟨x - b - y, x - b - y, 0, ⟨?_, ?_, ?_⟩, ?_, ?_, ?_, ?_⟩
    · rw [IntKind.wrap_u64, IntKind.wrap_u64]; omega
    · omega
    · omega
    · omega
    · omega
    · omega
    · omega
theorem mask32 (p : Nat) (hp : p < 18446744073709551616) : bits .and .u64 (p : Int) 4294967295 = ((p % 4294967296 : Nat) : Int) := by
  have h := bits_and_u64_nat p 4294967295 hp (by omega)
  rw [show (4294967295 : Nat) = 2 ^ 32 - 1 by decide, Nat.and_two_pow_sub_one_eq_mod] at h
  exact h
theorem msub_digit (x b p : Nat) (hx : x < 4294967296) (hb : b ≤ 1) (hp : p < 18446744073709551616) :
    ∃ T s c' tb : Nat, ((p : Int) / 4294967296 = (c' : Int) ∧ IntKind.u64.wrap (IntKind.u64.wrap ((x : Int) - (b : Int)) - bits .and .u64 (p : Int) 4294967295) = (T : Int) ∧ (T : Int) % 4294967296 = (s : Int) ∧ (T : Int) / 9223372036854775808 = (tb : Int)) ∧ s < 4294967296 ∧ c' < 4294967296 ∧ tb ≤ 1 ∧ s + p % 4294967296 + b = x + 4294967296 * tb ∧ p / 4294967296 = c' ∧ T < 18446744073709551616 := by
  obtain ⟨T, s, tb, ⟨h1, h2, h3⟩, h4, h5, h6, h7⟩ := sub64_digit x b (p % 4294967296) hx hb (by omega)
  rw [← mask32 p hp] at h1
  exact ⟨T, s, p / 4294967296, tb, ⟨by omega, h1, h2, h3⟩, h4, by omega, h5, h6, rfl, h7⟩
/-- One digit of the multiple, taken away. -/
theorem sub_digit_eq {x s p c b c' b' : Nat} (h1 : s + p % 4294967296 + b = x + 4294967296 * b') (h2 : p / 4294967296 = c') (gy : Nat) (h3 : p = gy + c) : s + gy + c + b = x + 4294967296 * (c' + b') := by
  omega
theorem msub_round {us vs : List Nat} {i j g c b c' b' s T : Nat} (hi : i + j < us.length) (h : val us + bp j * g * val (vs.take i) = T + bp (i + j) * (c + b)) (e : s + g * dg vs i + c + b = dg us (i + j) + 4294967296 * (c' + b')) :
    val (us.set (i + j) s) + bp j * g * val (vs.take (i + 1)) = T + bp (i + 1 + j) * (c' + b') := by
  have h1 := val_set us (i + j) s hi
  rw [val_take_succ_any, show i + 1 + j = i + j + 1 by omega, bp_succ, Nat.mul_add (bp j * g)]
  have h2 : bp j * g * (bp i * dg vs i) = bp (i + j) * (g * dg vs i) := by rw [bp_add]; ac_rfl
  have h3 : bp (i + j) * (s + g * dg vs i + c + b) = bp (i + j) * (dg us (i + j) + 4294967296 * (c' + b')) := by rw [e]
  rw [h2]
  rw [Nat.mul_add, Nat.mul_add, Nat.mul_add] at h3
  rw [Nat.mul_add] at h
  rw [Nat.mul_add _ (dg us (i + j))] at h3
  rw [Nat.mul_assoc 4294967296, ← Nat.mul_left_comm (bp (i + j))]
  omega
theorem msub_last {us vs : List Nat} {n j g c b tb s T : Nat} (hi : n + j < us.length) (h : val us + bp j * g * val (vs.take n) = T + bp (n + j) * (c + b)) (hn : vs.length = n) (e : s + b + c = dg us (n + j) + 4294967296 * tb) :
    val (us.set (n + j) s) + g * (bp j * val vs) = T + bp (n + j + 1) * tb := by
  have h1 := val_set us (n + j) s hi
  rw [val_take_all _ _ (by omega)] at h
  rw [bp_succ]
  have h3 : bp (n + j) * (s + b + c) = bp (n + j) * (dg us (n + j) + 4294967296 * tb) := by rw [e]
  rw [Nat.mul_add, Nat.mul_add, Nat.mul_add (bp (n + j)) (dg us (n + j))] at h3
  rw [Nat.mul_add] at h
  rw [← Nat.mul_assoc, Nat.mul_comm g, Nat.mul_assoc 4294967296, ← Nat.mul_left_comm (bp (n + j))]
  omega
theorem addb_round {us vs : List Nat} {i j c c' s T : Nat} (hi : i + j < us.length) (h : val us + bp (i + j) * c = T + bp j * val (vs.take i)) (e : s + 4294967296 * c' = dg us (i + j) + dg vs i + c) :
    val (us.set (i + j) s) + bp (i + 1 + j) * c' = T + bp j * val (vs.take (i + 1)) := by
  have h1 := val_set us (i + j) s hi
  rw [val_take_succ_any, show i + 1 + j = i + j + 1 by omega, bp_succ, Nat.mul_add (bp j)]
  have h2 : bp j * (bp i * dg vs i) = bp (i + j) * dg vs i := by rw [bp_add, ← Nat.mul_assoc, Nat.mul_comm (bp j)]
  have h3 : bp (i + j) * (s + 4294967296 * c') = bp (i + j) * (dg us (i + j) + dg vs i + c) := by rw [e]
  rw [Nat.mul_add, Nat.mul_add, Nat.mul_add] at h3
  rw [h2, Nat.mul_assoc 4294967296, ← Nat.mul_left_comm (bp (i + j))]
  omega
theorem addb_last {us vs : List Nat} {n j c h' s T : Nat} (hi : n + j < us.length) (h : val us + bp (n + j) * c = T + bp j * val (vs.take n)) (hn : vs.length = n) (e : s + 4294967296 * h' = dg us (n + j) + c) :
    val (us.set (n + j) s) + bp (n + j + 1) * h' = T + bp j * val vs := by
  have h1 := val_set us (n + j) s hi
  rw [val_take_all _ _ (by omega)] at h
  have h3 : bp (n + j) * (s + 4294967296 * h') = bp (n + j) * (dg us (n + j) + c) := by rw [e]
  rw [Nat.mul_add, Nat.mul_add] at h3
  rw [bp_succ, Nat.mul_assoc 4294967296, ← Nat.mul_left_comm (bp (n + j))]
  omega

/-- The digit's round up to the borrow. -/
theorem long_digit {us zs vs : List Nat} {V n j g c b tb s : Nat} (h : val us < bp (j + 1) * V) (hv : val vs = V) (hn : vs.length = n) (hV : V < bp n) (hV0 : 0 < V) (hz : Lt32 zs) (hs : s < 4294967296) (hi : n + j < zs.length)
    (HI : val zs + bp j * g * val (vs.take n) = val us + bp (n + j) * (c + b)) (HE : ∀ k, n + j ≤ k → dg zs k = dg us k) (e : s + c + b = dg zs (n + j) + 4294967296 * tb) (HQ : g = val us / (bp j * V) ∨ g = val us / (bp j * V) + 1) :
    (tb = 0 → g = val us / (bp j * V) ∧ val (zs.set (n + j) s) = val us % (bp j * V)) ∧ (tb = 1 → g = val us / (bp j * V) + 1 ∧ val (zs.set (n + j) s) + (val us / (bp j * V) + 1) * (bp j * V) = val us + bp (n + j + 1)) ∧ ∀ k, n + j + 1 ≤ k → dg (zs.set (n + j) s) k = 0 := by
  have hu : val us < bp (n + j + 1) := Nat.lt_of_lt_of_le h (by
    rw [show n + j + 1 = (j + 1) + n by omega, bp_add (j + 1) n]
    exact Nat.mul_le_mul_left _ (Nat.le_of_lt hV))
  have h0 : ∀ k, n + j + 1 ≤ k → dg (zs.set (n + j) s) k = 0 := fun k hk => by
    rw [dg_set, if_neg (by omega), HE k (by omega)]
    exact dg_zero_of_lt hu hk
  have h1 := msub_last (b := b) (c := c) (s := s) (tb := tb) hi HI hn (by omega)
  rw [hv] at h1
  have h2 := val_lt_zeros (hz.set (n + j) hs) h0
  have hP : 0 < bp j * V := Nat.mul_pos (bp_pos j) hV0
  have h3 := guess_ok HQ hP h2 h1
  refine ⟨h3.1, fun ht => ⟨h3.2 ht, ?_⟩, h0⟩
  rw [← h3.2 ht, h1, ht, Nat.mul_one]
theorem long_back {us zs ws vs : List Nat} {V n j c h' s : Nat} (hv : val vs = V) (hn : vs.length = n) (hV : V < bp n) (hV0 : 0 < V) (hz : Lt32 ws) (hs : s < 4294967296) (hi : n + j < ws.length)
    (HI : val ws + bp (n + j) * c = val zs + bp j * val (vs.take n)) (HE : ∀ k, n + j ≤ k → dg ws k = dg zs k) (H0 : ∀ k, n + j + 1 ≤ k → dg zs k = 0) (e : s + 4294967296 * h' = dg ws (n + j) + c)
    (HT : val zs + (val us / (bp j * V) + 1) * (bp j * V) = val us + bp (n + j + 1)) : val (ws.set (n + j) s) = val us % (bp j * V) := by
  have h0 : ∀ k, n + j + 1 ≤ k → dg (ws.set (n + j) s) k = 0 := fun k hk => by
    rw [dg_set, if_neg (by omega), HE k (by omega)]
    exact H0 k hk
  have h1 := addb_last hi HI hn e
  rw [hv] at h1
  have h2 := val_lt_zeros (hz.set (n + j) hs) h0
  have hP : 0 < bp j * V := Nat.mul_pos (bp_pos j) hV0
  refine guess_back ?_ h2 hP HT h1
  have h3 : bp j * V < bp j * bp n := Nat.mul_lt_mul_of_pos_left hV (bp_pos j)
  rw [show n + j + 1 = j + n + 1 by omega, bp_succ, bp_add]
  omega
theorem long_round {us us' qs : List Nat} {V j q U0 : Nat} (hV0 : 0 < V) (hj : j < qs.length) (h : val us + bp (j + 1) * V * val (qs.drop (j + 1)) = U0) (hu : val us' = val us % (bp j * V)) (hq : q = val us / (bp j * V)) :
    val us' < bp j * V ∧ val us' + bp j * V * val ((qs.set j q).drop j) = U0 := by
  have hP : 0 < bp j * V := Nat.mul_pos (bp_pos j) hV0
  rw [val_drop_set qs j q hj, hu, hq]
  refine ⟨Nat.mod_lt _ hP, ?_⟩
  have h1 := Nat.mod_add_div (val us) (bp j * V)
  have h2 : bp (j + 1) * V * val (qs.drop (j + 1)) = bp j * V * (4294967296 * val (qs.drop (j + 1))) := by rw [bp_succ]; ac_rfl
  rw [Nat.mul_add, ← h2]
  omega
theorem long_end {us qs : List Nat} {V U0 n : Nat} (hV : V < bp n) (hV0 : 0 < V) (h1 : val us < bp 0 * V) (h2 : val us + bp 0 * V * val (qs.drop 0) = U0) : val qs = U0 / V ∧ val (us.take n) = U0 % V := by
  rw [bp_zero, Nat.one_mul] at h1 h2
  rw [List.drop_zero] at h2
  have h3 : val (us.take n) = val us := by
    by_cases hn : n ≤ us.length
    · have h4 := val_take_drop us n hn
      have h5 : val (us.drop n) = 0 := val_zeros fun k => by rw [dg_drop]; exact dg_zero_of_lt (Nat.lt_trans h1 hV) (by omega)
      rw [h5, Nat.mul_zero] at h4
      omega
    · exact val_take_all _ _ (by omega)
  rw [h3, ← h2]
  constructor
  · rw [Nat.add_comm, Nat.mul_add_div hV0, Nat.div_eq_of_lt h1, Nat.add_zero]
  · rw [Nat.add_comm, Nat.mul_add_mod, Nat.mod_eq_of_lt h1]
end Go.Proofs.YtnknidfpkmnncaaGreat
/- natural.trim and natural.Shl once more: what comes back lies in a row of the call's own. -/
namespace Go.Proofs.YtnknidfpkmnncaaGreat
open Go.RowKit

/-- The slice that came in, shorter. -/
def NatS (A : Option Addr) (c m : Nat) (w : World) (e : Ending) (w' : World) : Prop := e = .returned (.slice A (digs m).length c) ∧ w = w'
set_option maxHeartbeats 400000 in
theorem trim_own (B : Nat) (A : Option Addr) (n c : Nat) (xs : List Nat) (w : World) (h : Dig B w A n c xs) (h0 : val xs ≠ 0) :
    Calls Tryz.prog 82 #[.slice A n c] w (NatS A c (val xs) w) := by
  have hcap := h.cap
  have hbd := h.bd
  have hlen := h.len
  have H0 := Lib.hid h0
  clear h0
  have HL := Lib.hid hlen
  clear hlen
  go_enter Tryz.func82, Tryz.ntmps82
  go_wp2
  go_loop [3] (fun i => ∃ k : Nat, k ≤ n ∧ i = .int .i64 k ∧ Hid (trimLen xs n = trimLen xs k)) (fun i => (intOf i).toNat)
  case atStart => exact ⟨n, Nat.le_refl _, rfl, Lib.hid rfl⟩
  case round =>
    obtain ⟨k, hk, rfl, H⟩ := hrel
    rcases k with _ | k
    · have hf : False := H0.out ((val_zero_iff h.dig).2 (by rw [HL.out]; exact H.out))
      exact hf.elim
    · obtain ⟨ad, rfl, hc⟩ := h.cell k (by omega)
      by_cases hz : dg xs k = 0
      · have H2 : Hid (trimLen xs n = trimLen xs k) := by
          have h1 := H.out
          rw [trimLen, if_pos hz] at h1
          exact h1
        rw [hz] at hc
        clear hz H
        go_wp2
        go_round
        case rel => exact ⟨k, by omega, by go_num, H2⟩
        case measure => simp [intOf]
      · have H2 : Hid (trimLen xs n = k + 1) := by
          have h1 := H.out
          rw [trimLen, if_neg hz] at h1
          exact h1
        have hz' : (((dg xs k : Nat) : Int) == 0) = false := by rw [beq_eq_false_iff_ne]; omega
        have HQ : Hid ((digs (val xs)).length = k + 1) := by
          have h1 := take_trimLen h.dig
          rw [HL.out, H2.out] at h1
          unfold Hid
          rw [← h1, List.length_take, HL.out, Nat.min_eq_left (by omega)]
        clear H hz H2
        go_wp2
        go_ret
        exact ⟨by rw [HQ.out]; rfl, rfl⟩

theorem OwnD.of_made {w : World} {n : Nat} {zs : List Nat} {wr : World} (h : MulRel w n zs wr) (hn : n ≤ maxLen) : OwnD w w.heap.size n n zs wr := by
  refine ⟨⟨by rw [digCells_length, h.len, Nat.mul_one], .inr ⟨w.heap.size, n, (digCells zs).toArray, rfl, Nat.le_refl _, h.made, Nat.le_refl _, hn, by simp [digCells_length, h.len], ?_⟩⟩, h.lt, h.below⟩
  rw [Nat.mul_one]
  exact List.take_of_length_le (by rw [digCells_length, h.len]; exact Nat.le_refl _)
theorem OwnD.take {w : World} {g n cap : Nat} {zs : List Nat} {wr : World} (h : OwnD w g n cap zs wr) {m : Nat} (hm : m ≤ n) : OwnD w g m cap (zs.take m) wr := by
  obtain ⟨cur, hb, hh, hn, hx, hsz, ht⟩ := h.form
  have hl := h.len
  refine ⟨⟨by rw [digCells_length, List.length_take, hl, Nat.min_eq_left hm, Nat.mul_one], .inr ⟨g, cap, cur, rfl, hb, hh, by omega, hx, by simpa using hsz, ?_⟩⟩, h.lt.take m, h.below⟩
  have e : digCells (zs.take m) = (digCells zs).take m := by unfold digCells; rw [List.map_take]
  rw [e, ← ht, Nat.mul_one, List.take_take, Nat.min_eq_left hm]

/-- What comes back reads as the digits of m, in a row of the call's own. -/
def NatOwn (m : Nat) (w : World) (e : Ending) (w' : World) : Prop := ∃ g cap, e = .returned (.slice (some ⟨g, 0, none⟩) (digs m).length cap) ∧ OwnD w g (digs m).length cap (digs m) w'
theorem NatOwn.mk {w : World} {n m m' : Nat} {zs : List Nat} {wr : World} (h : MulRel w n zs wr) (hv : val zs = m) (hn : n ≤ maxLen) (hm : m' = m) : NatOwn m w (.returned (.slice (some ⟨w.heap.size, 0, none⟩) (digs m').length n)) wr := by
  subst hm
  have hO := OwnD.of_made h hn
  have hl : (digs (val zs)).length ≤ n := by
    have := val_lt h.lt
    rw [h.len] at this
    exact digs_length_le this
  have ht := take_trimLen h.lt
  have hl2 : (digs (val zs)).length = trimLen zs zs.length := by rw [← ht, List.length_take, Nat.min_eq_left (trimLen_le _ _)]
  refine ⟨w.heap.size, n, rfl, ?_⟩
  have h2 := hO.take hl
  rw [hl2, ht, ← hl2, hv] at h2
  exact h2

set_option maxRecDepth 100000 in
set_option maxHeartbeats 2000000 in
theorem shl_own (B : Nat) (A : Option Addr) (n c : Nat) (xs : List Nat) (s : Nat) (w : World) (hx : Dig B w A n c xs) (hn : n ≤ 1073741824) (hs : s < 32) (h0 : val xs ≠ 0) :
    Calls Tryz.prog 109 #[.slice A n c, .int .i64 s] w (NatOwn (val xs * 2 ^ s) w) := by
  have hxl := digs_len_of hx
  go_enter Tryz.func109, Tryz.ntmps109
  go_wp2_with fail
  refine (trim_any B _ _ _ _ _ hx).mono ?_
  rintro e w' ⟨A', n', c', rfl, h', rfl⟩
  have hbd := h'.bd
  have hcap := h'.cap
  have hn' : n' ≤ 1073741824 := by have := h'.len; omega
  clear hx hxl
  generalize val xs = p at *
  have hp0 := h0
  have h0 : 0 < n' := by
    rcases Nat.eq_zero_or_pos n' with h1 | h1
    · exact absurd (digs_eq_nil.1 (List.eq_nil_of_length_eq_zero (by rw [h'.len]; exact h1))) hp0
    · exact h1
  have HP0 := Lib.hid hp0
  clear hp0
  · have h0' : ((n' : Int) == 0) = false := by rw [beq_eq_false_iff_ne]; omega
    have hmk := fun W => run_make_digits (n' + 1) ((n' : Int) + 1) (by omega) (by omega) W
    have q1 : (s : Int) / 32 = 0 := by omega
    obtain ⟨t, ht⟩ : ∃ t, t = s := ⟨_, rfl⟩
    have q2 : (s : Int) % 32 = (t : Int) := by omega
    have ht32 : t < 32 := by omega
    have HTS := Lib.hid ht
    clear ht
    have q3 : min (s : Int) 16777216 = (s : Int) := by omega
    have q4 : ¬ ((s : Int) < 0) := by omega
    obtain ⟨ad, rfl, had⟩ : ∃ ad, A' = some ad ∧ ∀ j v, (digCells (digs p))[j]? = some v → w.cell? (ad.add j) = some v := by
      obtain ⟨ad, e, _, hc⟩ := h'.row.cell h0
      exact ⟨ad, e, hc⟩
    have HLN := Lib.hid h'.len
    have hM1 := Made.new w (n' + 1)
    have hal : Below w.heap.size w (w.alloc (.cells (zeroRow (n' + 1)) 83)) := (Below.refl _ _).alloc (Nat.le_refl _) _
    have hsrc : ∀ j v, (digCells (digs p))[j]? = some v → (w.alloc (.cells (zeroRow (n' + 1)) 83)).cell? (ad.add j) = some v := fun j v hv => by
      have h9 := had j v hv
      have hlt := World.block_lt_of_cell? w _ h9
      rw [← h9]
      exact World.cell?_of_block (Below.heap_alloc w _ _ hlt)
    have hu32 : (Tryz.prog.info? 83).map (·.size) = some 1 := by kernel_rfl
    have hn0 : (digCells (digs p)).length = Nat.min n' (n' + 1) := by rw [digCells_length, HLN.out]; exact (Nat.min_eq_left (Nat.le_succ _)).symm
    have hf0 : 0 + (digCells (digs p)).length ≤ (digCells (List.replicate (n' + 1) 0)).length := by rw [digCells_length, digCells_length, HLN.out]; simp
    have HN0 := Lib.hid hn0
    have HF0 := Lib.hid hf0
    have HSRC := Lib.hid hsrc
    have HM1 := Lib.hid hM1
    clear hn0 hf0 hsrc hM1 had
    rcases Nat.eq_zero_or_pos t with h00 | h00
    · have ht0 : decide (0 < t) = false := by rw [decide_eq_false_iff_not]; omega
      have HT0 := Lib.hid h00
      clear h00
      go_upto_region 7 with (fail)
      go_wp2_with (refine wpList_copy_splice (o := ⟨some 33, _, _, _, _, _⟩) rfl (.tmp 31) (.tmp 32) 51 51 rfl 83 Tryz.underlying51 hu32 (some ⟨w.heap.size, 0, none⟩) (some ad) (n' + 1) (n' + 1) n' c' rfl rfl w.heap.size 0 (digCells (List.replicate (n' + 1) 0)) 83 HM1.out (digCells (digs p)) HN0.out (fun _ => ⟨rfl, ad, rfl, HSRC.out⟩) HF0.out (digCells_one _) w.heap.size w hal (Nat.le_refl _) ?_; intro w2 hw2 hb2)
      have hM2 : Made w2 w.heap.size (digs p ++ [0]) := by
        have h9 := hw2.out
        unfold Made
        rw [h9]
        congr 2
        unfold splice
        rw [List.take_zero, List.nil_append, Nat.zero_add, digCells_length, HLN.out, digCells_drop, List.drop_replicate, show n' + 1 - n' = 1 by omega, ← digCells_append]
        rfl
      have hR0 : MulRel w (n' + 1) (digs p ++ [0]) w2 := ⟨hM2, by rw [List.length_append, HLN.out]; rfl, (digs_lt32 p).append (Lt32.cons (by omega) Lt32.nil), hb2⟩
      have hv0 : val (digs p ++ [0]) = p := by rw [val_append, val_digs]; simp [val_cons, val_nil]
      have HR0 := Lib.hid hR0
      have HV0 := Lib.hid hv0
      clear hw2 hM2 hR0 hv0 HM1 HSRC HF0 HN0 hmk hal hb2
      have hdg := HR0.out.made.dig HR0.out.lt (by rw [HR0.out.len]; omega) B
      rw [HR0.out.len] at hdg
      have HP2 := Lib.hid (show p * 2 ^ s = p by rw [← HTS.out, HT0.out]; simp)
      go_wp2_with fail
      refine (trim_own B _ _ _ _ _ hdg (by rw [HV0.out]; exact HP0.out)).mono ?_
      rw [HV0.out]
      rintro e w3 ⟨rfl, rfl⟩
      go_wp2
      go_ret
      exact NatOwn.mk HR0.out (by rw [HV0.out, HP2.out]) (by unfold maxLen; omega) (by rw [HP2.out])
    · have ht0 : decide (0 < t) = true := by rw [decide_eq_true_eq]; omega
      go_upto_region 7 with (fail)
      go_wp2_with (refine wpList_copy_splice (o := ⟨some 33, _, _, _, _, _⟩) rfl (.tmp 31) (.tmp 32) 51 51 rfl 83 Tryz.underlying51 hu32 (some ⟨w.heap.size, 0, none⟩) (some ad) (n' + 1) (n' + 1) n' c' rfl rfl w.heap.size 0 (digCells (List.replicate (n' + 1) 0)) 83 HM1.out (digCells (digs p)) HN0.out (fun _ => ⟨rfl, ad, rfl, HSRC.out⟩) HF0.out (digCells_one _) w.heap.size w hal (Nat.le_refl _) ?_; intro w2 hw2 hb2)
      have hM2 : Made w2 w.heap.size (digs p ++ [0]) := by
        have h9 := hw2.out
        unfold Made
        rw [h9]
        congr 2
        unfold splice
        rw [List.take_zero, List.nil_append, Nat.zero_add, digCells_length, HLN.out, digCells_drop, List.drop_replicate, show n' + 1 - n' = 1 by omega, ← digCells_append]
        rfl
      have hR0 : MulRel w (n' + 1) (digs p ++ [0]) w2 := ⟨hM2, by rw [List.length_append, HLN.out]; rfl, (digs_lt32 p).append (Lt32.cons (by omega) Lt32.nil), hb2⟩
      have hv0 : val (digs p ++ [0]) = p := by rw [val_append, val_digs]; simp [val_cons, val_nil]
      have HR0 := Lib.hid hR0
      have HV0 := Lib.hid hv0
      clear hw2 hM2 hR0 hv0 HM1 HSRC HF0 HN0 hmk hal hb2
      go_wp2_with fail
      go_loopw [8, 9] (fun lv i wr => ∃ (k l : Nat) (zs : List Nat), k ≤ n' + 1 ∧ i = .int .i64 k ∧ lv = .int .u32 l ∧ l < 2 ^ t ∧ MulRel w (n' + 1) zs wr ∧ Hid (zs.drop k = (digs p ++ [0]).drop k ∧ val (zs.take k) + bp k * l = 2 ^ t * val ((digs p ++ [0]).take k))) (fun _ i _ => n' + 1 - (intOf i).toNat)
      case atStart => exact ⟨0, 0, _, Nat.zero_le _, rfl, rfl, Nat.pow_pos (by omega), HR0.out, Lib.hid ⟨rfl, by simp [val_nil]⟩⟩
      case round =>
        obtain ⟨k, l, zs, hk, rfl, rfl, hl, hR, HV⟩ := hrel
        by_cases hkn : k < n' + 1
        · have hout := hR.made.cell (k := k) (by rw [hR.len]; omega)
          have houtf := hR.made.frozen k
          have hx32 := hR.lt k
          have i0 : (0 : Int) ≤ (k : Int) := by omega
          have i1 : (k : Int) < (n' : Int) + 1 := by omega
          obtain ⟨y, m, ⟨e1, e2, e3⟩, hyl, hm, he⟩ := shl_digit (dg zs k) t l hx32 ht32 hl
          have HRN := Lib.hid (shl_round (zs := zs) (ys := digs p ++ [0]) (k := k) (l := l) (t := t) (y := y) (m := m) (by rw [hR.len]; exact hkn) (by rw [List.length_append, HLN.out]; exact hkn) HV.out.1 HV.out.2 he)
          have HR2 := Lib.hid (hR.step k (y + l) hyl)
          generalize dg zs k = x at *
          clear he hR HV
          go_wp2
          go_roundw
          case rel => exact ⟨k + 1, m, zs.set k (y + l), by omega, by go_num, rfl, hm, HR2.out, HRN⟩
          case measure => simp [intOf]; omega
        · obtain rfl : k = n' + 1 := by omega
          have hv9 := HV.out.2
          rw [List.take_of_length_le (by rw [hR.len]; exact Nat.le_refl _), List.take_of_length_le (by rw [HR0.out.len]; exact Nat.le_refl _), HV0.out] at hv9
          have HQ := Lib.hid (show val zs = p * 2 ^ s by rw [← HTS.out]; exact shl_done ht32 (by have h9 := lt_bp_digs p; rw [HLN.out] at h9; exact h9) hv9)
          have hdg := hR.made.dig hR.lt (by rw [hR.len]; omega) B
          rw [hR.len] at hdg
          have HRR := Lib.hid hR
          clear hv9 hR HV
          go_wp2_with fail
          refine (trim_own B _ _ _ _ _ hdg (by rw [HQ.out]; exact Nat.mul_ne_zero HP0.out (Nat.pos_iff_ne_zero.1 (Nat.pow_pos (by omega))))).mono ?_
          rw [HQ.out]
          rintro e w3 ⟨rfl, rfl⟩
          go_wp2
          go_ret
          exact NatOwn.mk HRR.out HQ.out (by unfold maxLen; omega) rfl
end Go.Proofs.YtnknidfpkmnncaaGreat
/- division.long: Knuth's division. -/
namespace Go.Proofs.YtnknidfpkmnncaaGreat
open Go.RowKit

/-- Quotient and remainder. -/
def LongP (B a b : Nat) (w : World) (e : Ending) (w' : World) : Prop :=
  ∃ A1 n1 c1 A2 n2 c2, e = .returned (.tuple #[.slice A1 n1 c1, .slice A2 n2 c2]) ∧ Dig B w' A1 n1 c1 (digs (a / b)) ∧ Dig B w' A2 n2 c2 (digs (a % b)) ∧ Below w.heap.size w w'

theorem OwnD.alloc {w : World} {g n cap : Nat} {zs : List Nat} {wr : World} (h : OwnD w g n cap zs wr) (o : Obj) : OwnD w g n cap zs (wr.alloc o) := by
  obtain ⟨cur, hb, hh, hn, hm, hsz, ht⟩ := h.form
  have hl := h.len
  have hlt : g < wr.heap.size := by
    rcases Nat.lt_or_ge g wr.heap.size with h1 | h1
    · exact h1
    · rw [Array.getElem?_eq_none h1] at hh; cases hh
  exact ⟨⟨by rw [digCells_length, hl]; omega, .inr ⟨g, cap, cur, rfl, hb, (Below.heap_alloc wr o g hlt).trans hh, hn, hm, by simpa using hsz, by simpa using ht⟩⟩, h.lt, h.below.alloc h.below.size _⟩
theorem OwnD.far {w : World} {g n cap : Nat} {zs : List Nat} {wr : World} (h : OwnD w g n cap zs wr) {p : Addr} (hp : g ≠ p.block) (hb : w.heap.size ≤ p.block) (u : Value) : OwnD w g n cap zs (wr.setCell p u) := by
  obtain ⟨cur, hb0, hh, hn, hm, hsz, ht⟩ := h.form
  have hl := h.len
  exact ⟨⟨by rw [digCells_length, hl]; omega, .inr ⟨g, cap, cur, rfl, hb0, (Below.heap_setCell wr p u g hp).trans hh, hn, hm, by simpa using hsz, by simpa using ht⟩⟩, h.lt, h.below.setCell hb _⟩
theorem OwnD.drewN {w : World} {g n cap : Nat} {zs : List Nat} {wr : World} (h : OwnD w g n cap zs wr) (m : Nat) : OwnD w g n cap zs (wr.drewN m) := by
  obtain ⟨cur, hb0, hh, hn, hm, hsz, ht⟩ := h.form
  have hl := h.len
  refine ⟨⟨by rw [digCells_length, hl]; omega, .inr ⟨g, cap, cur, rfl, hb0, ?_, hn, hm, by simpa using hsz, by simpa using ht⟩⟩, h.lt, h.below.trans ((((Drawn.refl wr).drewN m).below _))⟩
  rw [← hh]
  exact (((Drawn.refl wr).drewN m).below wr.heap.size).block g (by
    rcases Nat.lt_or_ge g wr.heap.size with h1 | h1
    · exact h1
    · rw [Array.getElem?_eq_none h1] at hh; cases hh)
theorem OwnD.lt_size {w : World} {g n cap : Nat} {zs : List Nat} {wr : World} (h : OwnD w g n cap zs wr) : g < wr.heap.size := by
  obtain ⟨cur, hb0, hh, hn, hm, hsz, ht⟩ := h.form
  rcases Nat.lt_or_ge g wr.heap.size with h1 | h1
  · exact h1
  · rw [Array.getElem?_eq_none h1] at hh; cases hh

/-- The state of a long division: the number in its row, the quotient in another one. -/
structure LongR (w : World) (g L cap gq nq : Nat) (us qs : List Nat) (wr : World) : Prop where
  u : OwnD w g L cap us wr
  q : Made wr gq qs
  ne : g ≠ gq
  new : w.heap.size ≤ gq
  len : qs.length = nq
  lt : Lt32 qs
section
variable {w : World} {g L cap gq nq : Nat} {us qs : List Nat} {wr : World}
theorem LongR.setU (h : LongR w g L cap gq nq us qs wr) (k v : Nat) (hv : v < 4294967296) : LongR w g L cap gq nq (us.set k v) qs (wr.setCell ⟨g, k, none⟩ (.int .u32 v)) :=
  ⟨h.u.step hv, h.q.far (p := ⟨g, k, none⟩) (fun e => h.ne e.symm) _, h.ne, h.new, h.len, h.lt⟩
theorem LongR.setQ (h : LongR w g L cap gq nq us qs wr) (k v : Nat) (hv : v < 4294967296) : LongR w g L cap gq nq us (qs.set k v) (wr.setCell ⟨gq, k, none⟩ (.int .u32 v)) :=
  ⟨h.u.far (p := ⟨gq, k, none⟩) h.ne h.new _, h.q.set_ k v, h.ne, h.new, by simpa using h.len, h.lt.set k hv⟩
theorem LongR.drewN (h : LongR w g L cap gq nq us qs wr) (m : Nat) : LongR w g L cap gq nq us qs (wr.drewN m) :=
  ⟨h.u.drewN m, h.q.below ((((Drawn.refl wr).drewN m).below wr.heap.size)) h.q.lt, h.ne, h.new, h.len, h.lt⟩
end

theorem shl_len {v m d s : Nat} (hs : s ≤ 31) (hd : d * 2 ^ s < 4294967296) (hv : v < (d + 1) * bp m) : v * 2 ^ s < bp (m + 1) := by
  have hp : (4294967296 : Nat) = 2 ^ (32 - s) * 2 ^ s := by rw [← Nat.pow_add, show 32 - s + s = 32 by omega]
  rw [hp] at hd
  have hd2 : d < 2 ^ (32 - s) := Nat.lt_of_mul_lt_mul_right hd
  rw [bp_succ, hp]
  have h1 : v * 2 ^ s < (d + 1) * bp m * 2 ^ s := Nat.mul_lt_mul_of_pos_right hv (Nat.pow_pos (by omega))
  have h2 : (d + 1) * bp m * 2 ^ s ≤ 2 ^ (32 - s) * bp m * 2 ^ s := Nat.mul_le_mul_right _ (Nat.mul_le_mul_right _ hd2)
  rw [Nat.mul_right_comm] at h2
  rw [Nat.mul_right_comm (2 ^ (32 - s)) (bp m)] at h2
  rw [Nat.mul_right_comm] at h1
  omega
/-- What the shifted numbers' quotient and remainder are good for. -/
theorem shift_quot (a b s : Nat) : (a * 2 ^ s) / (b * 2 ^ s) = a / b ∧ (a * 2 ^ s) % (b * 2 ^ s) / 2 ^ s = a % b := by
  have hp : 0 < 2 ^ s := Nat.pow_pos (by omega)
  exact ⟨Nat.mul_div_mul_right _ _ hp, by rw [Nat.mul_mod_mul_right, Nat.mul_div_cancel _ hp]⟩
/-- The digit's guess, corrected. -/
def LongCut (w : World) (g L cap gq nq : Nat) (us qs : List Nat) (P : Nat) (gv : Value) (wx : World) : Prop :=
  ∃ gg : Nat, gv = .int .u64 gg ∧ gg < 4294967296 ∧ LongR w g L cap gq nq us qs wx ∧ Hid (gg = val us / P ∨ gg = val us / P + 1)
theorem longCut_stop {w : World} {g L cap gq nq : Nat} {us qs : List Nat} {P E top nx x2 x1 x0 gg r : Nat} {wx : World} (hG : Guess (val us) P E top nx x2 x1 x0) (he : gg * top + r = x2 * 4294967296 + x1) (hi : val us < (gg + 1) * P) (hg : gg < 4294967296) (hc : gg * nx ≤ r * 4294967296 + x0) (hR : LongR w g L cap gq nq us qs wx) :
    LongCut w g L cap gq nq us qs P (.int .u64 gg) wx :=
  ⟨gg, rfl, hg, hR, Lib.hid (guess_quot hi (hG.stop he hg hc))⟩
theorem longCut_left {w : World} {g L cap gq nq : Nat} {us qs : List Nat} {P E top nx x2 x1 x0 gg r : Nat} {wx : World} (hG : Guess (val us) P E top nx x2 x1 x0) (he : gg * top + r = x2 * 4294967296 + x1) (hi : val us < (gg + 1) * P) (hr : 4294967296 ≤ r) (hR : LongR w g L cap gq nq us qs wx) :
    LongCut w g L cap gq nq us qs P (.int .u64 gg) wx :=
  longCut_stop hG he hi (hG.left he hr).1 (hG.left he hr).2 hR
theorem bp_succ_mul (j V : Nat) : bp (j + 1) * V = 4294967296 * (bp j * V) := by
  rw [bp_succ]
  generalize (4294967296 : Nat) = b
  exact Nat.mul_assoc _ _ _
theorem guess_of {us : List Nat} {V top nx j n1 : Nat} (hl : Lt32 us) (h : val us < bp (j + 1) * V) (hV : V < bp (n1 + 2)) (hp : ∃ low, low < bp n1 ∧ V = (top * 4294967296 + nx) * bp n1 + low) (t0 : 0 < top) (t1 : top < 4294967296) (t2 : nx < 4294967296) :
    Guess (val us) (bp j * V) (bp (j + n1)) top nx (dg us (j + n1 + 2)) (dg us (j + n1 + 1)) (dg us (j + n1)) where
  e := bp_pos _
  u := val_top3 hl (Nat.lt_of_lt_of_le h (by
    rw [show j + n1 + 3 = (j + 1) + (n1 + 2) by omega, bp_add (j + 1) (n1 + 2)]
    exact Nat.mul_le_mul_left _ (Nat.le_of_lt hV)))
  p := by
    obtain ⟨low, h1, h2⟩ := hp
    refine ⟨bp j * low, by rw [bp_add]; exact Nat.mul_lt_mul_of_pos_left h1 (bp_pos j), ?_⟩
    rw [h2, Nat.mul_add, bp_add, Nat.mul_left_comm]
  lt := by
    have e : bp (j + 1) * V = 4294967296 * (bp j * V) := bp_succ_mul j V
    rw [← e]
    exact h
  t0 := t0
  t := t1
  n := t2
  a1 := hl _
  a0 := hl _
  a2 := hl _
theorem long_start {U0 V nq k1 L : Nat} (hL : (digs U0).length = L) (hU : L = nq + k1) (ht : dg (digs V) k1 ≠ 0) :
    val (digs U0 ++ [0]) < bp nq * V ∧ val (digs U0 ++ [0]) + bp nq * V * val ((List.replicate nq 0).drop nq) = U0 := by
  have e : val (digs U0 ++ [0]) = U0 := by rw [val_append, val_digs]; simp [val_cons, val_nil]
  rw [e, List.drop_of_length_le (by simp), val_nil, Nat.mul_zero, Nat.add_zero]
  refine ⟨?_, rfl⟩
  have h1 := lt_bp_digs U0
  rw [hL, hU, bp_add] at h1
  have h2 := dg_le_val (digs V) k1
  rw [val_digs] at h2
  have h3 : bp k1 * 1 ≤ bp k1 * dg (digs V) k1 := Nat.mul_le_mul_left _ (Nat.pos_of_ne_zero ht)
  exact Nat.lt_of_lt_of_le h1 (Nat.mul_le_mul_left _ (by omega))
theorem ge_length {a b : Nat} (h : b ≤ a) : (digs b).length ≤ (digs a).length := digs_length_mono h

set_option maxRecDepth 100000 in
set_option maxHeartbeats 4000000 in
theorem long_any (B : Nat) (A A2 : Option Addr) (n c n2 c2 : Nat) (xs ys : List Nat) (w : World) (hx : Dig B w A n c xs) (hy : Dig B w A2 n2 c2 ys) (hn : n ≤ 536870912) (hn2 : n2 ≤ 536870912) (hb : val ys ≠ 0) :
    Calls Tryz.prog 98 #[.slice A n c, .slice A2 n2 c2] w (LongP B (val xs) (val ys) w) := by
  obtain ⟨i0, hi, hz0, hz1, hz2⟩ := info_parts u32info
  have hxl := digs_len_of hx
  have hyl := digs_len_of hy
  go_enter Tryz.func98, Tryz.ntmps98
  go_wp2
  go_step3
  go_wp2_with fail
  refine (normal_any B _ _ _ _ _ hy (by omega)).mono ?_
  rintro e w1 ⟨A', n', c', rfl, h', hb1⟩
  have hcap' := h'.cap
  have hbd' := h'.bd
  have hx1 := hx.below hb1 (Nat.le_refl _)
  have hlen' := h'.len
  have HB1 := Lib.hid hb1
  clear hx hy hb1
  go_wp2_with fail
  have HC := (cmp_any B _ _ _ _ _ _ _ _ _ hx1 h')
  refine HC.mono ?_
  intro e w2 hq
  obtain ⟨hqe, hqd⟩ := hq
  obtain ⟨m2, hm2⟩ := hqd
  subst hqe hm2
  clear HC
  have hx2 := hx1.drewN m2
  have h2 := h'.drewN m2
  rw [val_digs]
  by_cases hlt : val xs < val ys
  · have hcmp := Lib.hid (cmpN_lt hlt)
    rw [hcmp.out]
    go_wp2_with fail
    refine (normal_any B _ _ _ _ _ hx2 (by omega)).mono ?_
    rintro e w3 ⟨A3, n3, c3, rfl, h3, hb3⟩
    have HX := Lib.hid (show Dig B w3 none 0 0 (digs (val xs / val ys)) ∧ Dig B w3 A3 n3 c3 (digs (val xs % val ys)) ∧ Below w.heap.size w w3 from
      ⟨by rw [Nat.div_eq_of_lt hlt, digs_zero]; exact Dig.nil, by rw [Nat.mod_eq_of_lt hlt]; exact h3, (HB1.out.trans (((Drawn.refl w1).drewN m2).below _)).trans (hb3.mono (by have := HB1.out.size; simpa using this))⟩)
    clear hlt hcmp h3 hb3
    go_wp2
    try rw [Exit.noGoto_ret]
    go_ret2
    exact ⟨_, _, _, _, _, _, rfl, HX.out.1, HX.out.2.1, HX.out.2.2⟩
  · have hcmp : ¬ (cmpN (val xs) (val ys) < 0) := by
      unfold cmpN
      rw [if_neg hlt]
      split <;> omega
    obtain ⟨cz, hcz⟩ : ∃ cz, cz = cmpN (val xs) (val ys) := ⟨_, rfl⟩
    rw [← hcz] at hcmp ⊢
    clear hcz
    have hn' : (digs (val ys)).length = n' := hlen'
    have hn0 : 0 < n' := by
      rcases Nat.eq_zero_or_pos n' with h0 | h0
      · exact absurd (digs_eq_nil.1 (List.eq_nil_of_length_eq_zero (by rw [hlen']; exact h0))) hb
      · exact h0
    rcases Nat.eq_or_lt_of_le (show 1 ≤ n' from hn0) with h1 | h1
    · subst h1
      have hd : dg (digs (val ys)) 0 = val ys := by
        have h3 := val_take_succ_any (digs (val ys)) 0
        rw [val_take_all _ _ (by omega), val_digs, bp_zero, Nat.one_mul, List.take_zero, val_nil, Nat.zero_add] at h3
        exact h3.symm
      have hd32 : val ys < 4294967296 := by rw [← hd]; exact digs_lt32 _ _
      obtain ⟨ad, rfl, hca⟩ := h2.cell 0 (by omega)
      rw [add_zero, hd] at hca
      generalize val ys = b at *
      clear hlen' hn' hd
      go_wp2_with fail
      refine (divsmall_any B _ _ _ _ b _ hx2 (by omega) (Nat.pos_of_ne_zero hb) hd32).mono ?_
      rintro e w3 ⟨A3, n3, c3, rfl, h3, hb3⟩
      have hr32 : val xs % b < 18446744073709551616 := Nat.lt_trans (Nat.mod_lt _ (Nat.pos_of_ne_zero hb)) (by omega)
      have HR := fun W => of_any B (val xs % b) W hr32
      have hr0 : val xs % b < 4294967296 := Nat.lt_trans (Nat.mod_lt _ (Nat.pos_of_ne_zero hb)) (by omega)
      have HB3 := Lib.hid hb3
      generalize hrr : val xs % b = r at *
      generalize hqq : val xs / b = q at *
      have HRR := Lib.hid hrr
      have HQQ := Lib.hid hqq
      clear hrr hqq
      have h3H := Lib.hid h3
      clear hb3 hr32 h3
      go_wp2_with fail
      refine (HR _).mono ?_
      rintro e w4 ⟨A4, n4, c4, rfl, h4, hb4⟩
      have HX := Lib.hid (show Dig B w4 A3 n3 c3 (digs q) ∧ Dig B w4 A4 n4 c4 (digs r) ∧ Below w.heap.size w w4 from
        ⟨h3H.out.below hb4 (Nat.le_refl _), h4, by
          have b1 := HB1.out.trans (((Drawn.refl w1).drewN m2).below _)
          have b2 := b1.trans (HB3.out.mono b1.size)
          exact b2.trans (hb4.mono b2.size)⟩)
      clear h3H h4 hb4 HR HB3
      go_wp2
      try rw [Exit.noGoto_ret]
      go_ret2
      exact ⟨_, _, _, _, _, _, rfl, by rw [HQQ.out]; exact HX.out.1, by rw [HRR.out]; exact HX.out.2.1, HX.out.2.2⟩
    · obtain ⟨n1, hn1⟩ : ∃ n1, n1 + 2 = n' := ⟨n' - 2, by omega⟩
      obtain ⟨k1, hk1⟩ : ∃ k1, k1 = n1 + 1 := ⟨_, rfl⟩
      have q1 : (n' : Int) - 1 = (k1 : Int) := by omega
      have q2 : (n' : Int) - 2 = (n1 : Int) := by omega
      obtain ⟨ad, rfl, hca⟩ := h2.cell k1 (by omega)
      have htop0 : dg (digs (val ys)) k1 ≠ 0 := by
        have h3 := digs_last hb
        rw [hlen', show n' - 1 = k1 by omega] at h3
        exact h3
      have htop32 : dg (digs (val ys)) k1 < 4294967296 := digs_lt32 _ _
      obtain ⟨hs1, hs2, hs3⟩ := lz_bounds _ htop32 (Nat.pos_of_ne_zero htop0)
      have HLZ := fun W => lz32_any (dg (digs (val ys)) k1) W htop32
      obtain ⟨s, hs⟩ : ∃ s, s = 32 - Lib.bitLen (dg (digs (val ys)) k1) := ⟨_, rfl⟩
      rw [← hs] at HLZ hs1 hs2 hs3
      have hv0 : val ys * 2 ^ s ≠ 0 := Nat.mul_ne_zero hb (Nat.pos_iff_ne_zero.1 (Nat.pow_pos (by omega)))
      have hvl : (digs (val ys * 2 ^ s)).length = n' := by
        refine Nat.le_antisymm (digs_length_le ?_) ?_
        · have h3 := val_take_succ_any (digs (val ys)) k1
          rw [val_take_all _ _ (by rw [hlen']; omega), val_digs] at h3
          have h4 := val_take_lt (digs_lt32 (val ys)) k1
          rw [show n' = k1 + 1 by omega]
          refine shl_len hs1 hs3 ?_
          rw [Nat.add_mul, Nat.one_mul, Nat.mul_comm (dg _ _)]
          omega
        · rw [← hlen']
          exact digs_length_mono (Nat.le_mul_of_pos_right _ (Nat.pow_pos (by omega)))
      have hal : val ys * 2 ^ s ≤ val xs * 2 ^ s := Nat.mul_le_mul_right _ (by omega)
      have ha0 : val xs ≠ 0 := by omega
      have hul := digs_length_mono hal
      rw [hvl] at hul
      have hul2 : (digs (val xs * 2 ^ s)).length ≤ 536870913 := by
        refine digs_length_le (Nat.lt_of_lt_of_le (?_ : _ < bp (n + 1)) (bp_mono (by omega)))
        have h3 := val_lt hx2.dig
        rw [hx2.len] at h3
        have h4 : 2 ^ s ≤ 2 ^ 32 := Nat.pow_le_pow_right (by omega) (by omega)
        have h5 : val xs * 2 ^ s ≤ val xs * 2 ^ 32 := Nat.mul_le_mul_left _ h4
        rw [bp_succ]
        omega
      generalize hdd : dg (digs (val ys)) k1 = d at *
      clear hs
      have HN := Lib.hid (show n1 + 2 = n' ∧ k1 = n1 + 1 from ⟨hn1, hk1⟩)
      have j1 : (k1 : Int) < (n' : Int) := by omega
      have j2 : (n1 : Int) < (n' : Int) := by omega
      have j3 : ((n' : Int) == 1) = false := by rw [beq_eq_false_iff_ne]; omega
      clear hn1 hk1
      have HS := Lib.hid (And.intro hs2 hs3)
      clear hs2 hs3 hdd hlen' hn' hyl hxl hal
      have HHB := Lib.hid hb
      have HHA := Lib.hid ha0
      clear hb ha0 hv0
      go_wp2_with fail
      refine (HLZ _).mono ?_
      rintro e w3 ⟨rfl, rfl⟩
      go_wp2_with fail
      refine (shl_own B _ _ _ _ s _ h2 (by omega) (by omega) (by rw [val_digs]; exact HHB.out)).mono ?_
      rintro e w4 ⟨g4, cap4, rfl, h4⟩
      rw [val_digs, hvl] at h4 ⊢
      go_wp2_with fail
      refine (shl_own B _ _ _ _ s _ (hx2.below h4.below (Nat.le_refl _)) (by omega) (by omega) HHA.out).mono ?_
      rintro e w5 ⟨g5, cap5, rfl, h5⟩
      generalize hLL : (digs (val xs * 2 ^ s)).length = L at *
      have HL5 := Lib.hid (And.intro hLL hul)
      have hLn : (n' : Int) ≤ (L : Int) := by omega
      have HLU := Lib.hid hul
      clear hul hLL
      go_wp2_with (at_builtin; refine wpList_append_row _ rfl _ _ 51 rfl w4.heap.size 83 i0 (.int .u32 0) 1 4 Tryz.underlying51 hi hz0 hz1 hz2 rfl (by decide) (.slice (some ⟨g5, 0, none⟩) L cap5) L (digCells (digs (val xs * 2 ^ s))) rfl (h5.alloc _).own B _ _ 1 1 [.int .u32 0] rfl (Row.new B 83 _ 1 1 #[.int .u32 0] rfl (by omega)) (by intro u hu; simp only [List.mem_singleton] at hu; subst hu; rfl) (by simp only [maxLen]; omega) (by omega) (h5.alloc _).below.size ?_; intro v6 w6 hown hg _)
      have HSQ := Lib.hid (shift_quot (val xs) (val ys) s)
      have hvt : dg (digs (val ys * 2 ^ s)) k1 ≠ 0 := by
        have h3 := digs_last (n := val ys * 2 ^ s) (Nat.mul_ne_zero HHB.out (Nat.pos_iff_ne_zero.1 (Nat.pow_pos (by omega))))
        rw [hvl, show n' - 1 = k1 by have := HN.out; omega] at h3
        exact h3
      generalize val xs * 2 ^ s = U0 at *
      generalize val ys * 2 ^ s = V at *
      obtain ⟨U, hU⟩ : ∃ U, L + 1 = U := ⟨_, rfl⟩
      rw [hU] at hown
      obtain ⟨g6, cap6, rfl, hg6, hl6⟩ := hown.form (by omega)
      have hO6 : OwnD w4 g6 U cap6 (digs U0 ++ [0]) w6 := ⟨by rw [digCells_append]; exact hown, (digs_lt32 U0).append (Lt32.cons (by omega) Lt32.nil), (h5.alloc _).below.grown hg (h5.alloc _).below.size (fun k hk => by obtain ⟨_, hb5, _⟩ := h5.form; have e5 : g5 = k := (by simpa [Value.ownBlock] using hk); omega)⟩
      have hV := (h4.dig B)
      have hU2 : n' < U := by omega
      have hU3 : U ≤ 536870914 := by omega
      obtain ⟨nz, hnq⟩ : ∃ nz, U - n' = nz := ⟨_, rfl⟩
      have hnq1 : 0 < nz := by omega
      have q3 : (U : Int) - (n' : Int) = (nz : Int) := by omega
      have hmk := fun W => run_make_digits nz (nz : Int) rfl (by omega) W
      have hc4 := hV.cap
      have hc4b := hV.bd
      have hc6 := (hO6.dig B).cap
      have hc6b := (hO6.dig B).bd
      have HU := Lib.hid (And.intro hU hnq)
      clear hown hg h5 hg6 hl6 hU hnq
      have HO6 := Lib.hid hO6
      have hR0 : LongR w4 g6 U cap6 w6.heap.size nz (digs U0 ++ [0]) (List.replicate nz 0) (w6.alloc (.cells (zeroRow nz) 83)) :=
        ⟨HO6.out.alloc _, Made.new w6 nz, Nat.ne_of_lt HO6.out.lt_size, HO6.out.below.size, by simp, lt32_replicate _⟩
      have hvk : ∀ wr, Below w4.heap.size w4 wr → ∀ k, k < n' → wr.cell? ⟨g4, k, none⟩ = some (.int .u32 ((dg (digs V) k : Nat) : Int)) := fun wr hb k hk => by
        obtain ⟨ad, e, hc⟩ := hV.cell k hk
        injection e with e
        subst e
        have ha : (⟨g4, 0, none⟩ : Addr).add k = ⟨g4, k, none⟩ := by unfold Addr.add; split <;> simp_all
        rw [ha] at hc
        exact (hb.cell (World.block_lt_of_cell? w4 _ hc)).trans hc
      have HVK := Lib.hid hvk
      clear hvk
      have hct := HVK.out _ hR0.u.below k1 (by omega)
      have hcn := HVK.out _ hR0.u.below n1 (by omega)
      go_wp2
      have wt : IntKind.u64.wrap ((dg (digs V) k1 : Nat) : Int) = ((dg (digs V) k1 : Nat) : Int) := IntWalk.u64_in _ (by have := digs_lt32 V k1; omega)
      have wn : IntKind.u64.wrap ((dg (digs V) n1 : Nat) : Int) = ((dg (digs V) n1 : Nat) : Int) := IntWalk.u64_in _ (by have := digs_lt32 V n1; omega)
      go_simp
      go_wp2
      go_quiet (fail)
      go_wp2
      go_step3
      go_wp2
      have HV2 := Lib.hid (show V < bp (n1 + 2) by have h3 := lt_bp_digs V; rw [hvl, ← HN.out.1] at h3; exact h3)
      have HV2' := Lib.hid (show V < bp n' by rw [← HN.out.1]; exact HV2.out)
      have hV0 : 0 < V := by
        rcases Nat.eq_zero_or_pos V with h3 | h3
        · subst h3
          rw [digs_zero] at hvl
          have h4 := HN.out
          simp at hvl
          omega
        · exact h3
      have HST := Lib.hid (long_start (nq := nz) (V := V) HL5.out.1 (by have h3 := HU.out; have h4 := HN.out; omega) hvt)
      have HP := Lib.hid (show ∃ low, low < bp n1 ∧ V = (dg (digs V) k1 * 4294967296 + dg (digs V) n1) * bp n1 + low by
        obtain ⟨low, h3, h4⟩ := val_top2 (m := n1) (digs_lt32 V) (by rw [val_digs]; exact HV2.out)
        rw [val_digs, ← HN.out.2] at h4
        exact ⟨low, h3, h4⟩)
      have ht0 : 0 < dg (digs V) k1 := Nat.pos_of_ne_zero hvt
      have ht1 : dg (digs V) k1 < 4294967296 := digs_lt32 _ _
      have ht2 : dg (digs V) n1 < 4294967296 := digs_lt32 _ _
      clear hct hcn hvt wt wn
      generalize dg (digs V) k1 = top at *
      generalize dg (digs V) n1 = nx at *
      go_loopw [15] (fun i wr => ∃ (k : Nat) (us qs : List Nat), k ≤ nz ∧ i = .int .i64 ((k : Int) - 1) ∧ LongR w4 g6 U cap6 w6.heap.size nz us qs wr ∧ Hid (val us < bp k * V ∧ val us + bp k * V * val (qs.drop k) = U0)) (fun i _ => (intOf i + 1).toNat)
      case atStart => exact ⟨nz, _, _, Nat.le_refl _, rfl, hR0.drewN _, HST⟩
      case round =>
        obtain ⟨k, us, qs, hk, rfl, hR, HV⟩ := hrel
        rcases k with _ | j
        · have hEND := long_end (qs := qs) (U0 := U0) HV2'.out hV0 HV.out.1 HV.out.2
          have hq9 := hR.q.dig hR.lt (by rw [hR.len]; omega) B
          rw [hR.len] at hq9
          have hu9 := (hR.u.take (m := n') (by omega)).dig B
          have hBel := hR.u.below
          have HBW := Lib.hid (show Below w.heap.size w wr by
            have b1 := HB1.out.trans (((Drawn.refl w1).drewN m2).below _)
            have b2 := b1.trans (h4.below.mono (by have := b1.size; simpa using this))
            exact b2.trans (hBel.mono b2.size))
          have hn6 : (n' : Int) ≤ (cap6 : Int) := by omega
          have hn7 : n' ≤ cap6 := by omega
          have HE9 := Lib.hid hEND
          have HN9 := Lib.hid (fun W (hb : Below wr.heap.size wr W) => normal_any B _ nz nz qs W (hq9.below hb (Nat.le_refl _)) (by omega))
          have HS9 := Lib.hid (fun W (hb : Below wr.heap.size wr W) => shr_any B _ n' cap6 (us.take n') s W (hu9.below hb (Nat.le_refl _)) (by omega) (by omega))
          have hbd := Below.drew (Below.refl wr.heap.size wr)
          clear hEND hR0 hR
          go_wp2
          go_region_held3 (fun _ => True) (first | exact trivial | go_keep)
            (first
              | (go_at_call 79; (with_reducible refine (HN9.out _ hbd).mono ?_); rintro e8 w8 ⟨A8, n8, c8, rfl, h8, hb8⟩; have hbe := hbd.trans (hb8.mono hbd.size))
              | (go_at_call 111; (with_reducible refine (HS9.out _ hbe).mono ?_); rintro e9 w9 ⟨A9, n9, c9, rfl, h9, hb9⟩))
          all_goals
            have HX := Lib.hid (show Dig B w9 A8 n8 c8 (digs (val xs / val ys)) ∧ Dig B w9 A9 n9 c9 (digs (val xs % val ys)) ∧ Below w.heap.size w w9 from
              ⟨by rw [← HSQ.out.1, ← HE9.out.1]; exact h8.below hb9 (Nat.le_refl _), by rw [← HSQ.out.2, ← HE9.out.2]; exact h9, by
                have b1 := HBW.out.trans (hbe.mono HBW.out.size)
                exact b1.trans (hb9.mono b1.size)⟩)
            clear h8 h9 hb8 hb9 hbe hbd
            go_wp2
            try rw [Exit.noGoto_ret]
            go_ret2
            exact ⟨_, _, _, _, _, _, rfl, HX.out.1, HX.out.2.1, HX.out.2.2⟩
        · have e1 : (((j + 1 : Nat) : Int) - 1) = (j : Int) := by omega
          rw [e1]
          clear e1
          have hG := guess_of (j := j) hR.u.lt HV.out.1 HV2.out HP.out ht0 ht1 ht2
          obtain ⟨J0, hJ0⟩ : ∃ J0, J0 = j + n1 := ⟨_, rfl⟩
          obtain ⟨J1, hJ1⟩ : ∃ J1, J1 = j + n1 + 1 := ⟨_, rfl⟩
          obtain ⟨J2, hJ2⟩ : ∃ J2, J2 = j + n1 + 2 := ⟨_, rfl⟩
          rw [← hJ2, ← hJ1, ← hJ0] at hG
          have r2 : (j : Int) + (n' : Int) = (J2 : Int) := by have := HN.out; omega
          have r1 : (J2 : Int) - 1 = (J1 : Int) := by omega
          have r0 : (J2 : Int) - 2 = (J0 : Int) := by omega
          have b2 : (J2 : Int) < (U : Int) := by have := HN.out; have := HU.out; omega
          have b1 : (J1 : Int) < (U : Int) := by omega
          have b0 : (J0 : Int) < (U : Int) := by omega
          have c2 := hR.u.cell (k := J2) (by omega)
          have c1 := hR.u.cell (k := J1) (by omega)
          have c0 := hR.u.cell (k := J0) (by omega)
          have HJ := Lib.hid (show J0 = j + n1 ∧ J1 = j + n1 + 1 ∧ J2 = j + n1 + 2 from ⟨hJ0, hJ1, hJ2⟩)
          have bj : (j : Int) < (nz : Int) := by omega
          have hj0 : (0 : Int) ≤ (j : Int) := by omega
          clear hJ0 hJ1 hJ2
          have x2 := hG.a2
          have x1 := hG.a1
          have x0 := hG.a0
          have eo := u64_or_hi _ _ x2 x1
          obtain ⟨X, hX⟩ : ∃ X, X = dg us J2 * 4294967296 + dg us J1 := ⟨_, rfl⟩
          rw [← hX] at eo
          have hX64 : X < 18446744073709551616 := by omega
          have HX := Lib.hid hX
          clear hX
          have w2 : IntKind.i64.wrap (J2 : Int) = (J2 : Int) := IntWalk.i64_in _ (by omega)
          have w1 : IntKind.i64.wrap (J1 : Int) = (J1 : Int) := IntWalk.i64_in _ (by omega)
          have y2 : IntKind.u64.wrap ((dg us J2 : Nat) : Int) = ((dg us J2 : Nat) : Int) := IntWalk.u64_in _ (by omega)
          have y1 : IntKind.u64.wrap ((dg us J1 : Nat) : Int) = ((dg us J1 : Nat) : Int) := IntWalk.u64_in _ (by omega)
          have y3 : IntKind.u64.wrap (((dg us J2 : Nat) : Int) * 4294967296) = ((dg us J2 : Nat) : Int) * 4294967296 := IntWalk.u64_in _ (by omega)
          go_wp2
          obtain ⟨g0, hg0⟩ : ∃ g0, X / top = g0 := ⟨_, rfl⟩
          obtain ⟨r0', hr0⟩ : ∃ r0', X % top = r0' := ⟨_, rfl⟩
          have HD64 := Lib.hid (fun n => div64_any X top (wr.drewN n) ht0 hX64 (by omega))
          rw [hg0, hr0] at HD64
          have HG0 := Lib.hid (And.intro hg0 hr0)
          clear hg0 hr0
          go_quiet ((go_at_call 110; exact Calls.quiet_of (HD64.out _)))
          have hR7 := hR.drewN nq
          have HG := Lib.hid hG
          clear w2 w1 y2 y1 y3 eo HD64 c2 c1 c0 hR hG
          go_upto_block 2 with (fail)
          go_cut [16] (fun gv wx => LongCut w4 g6 U cap6 w6.heap.size nz us qs (bp j * V) gv wx)
          case first =>
            --<
            have c0 := hR7.u.cell (k := J0) (by omega)
            have hXt : g0 < 18446744073709551616 := by rw [← HG0.out.1]; exact Nat.lt_of_le_of_lt (Nat.div_le_self _ _) hX64
            have hXr : r0' < 4294967296 := by rw [← HG0.out.2]; exact Nat.lt_trans (Nat.mod_lt _ ht0) ht1
            have HX0 := Lib.hid (show g0 * top + r0' = X ∧ val us < (g0 + 1) * (bp j * V) from ⟨by rw [← HG0.out.1, ← HG0.out.2, Nat.mul_comm]; exact Nat.div_add_mod _ _, by have h9 := HG.out.start; rw [← HX.out, HG0.out.1] at h9; exact h9⟩)
            have HR7 := Lib.hid hR7
            clear hR7
            go_wp2
            go_loopw [16, 17] (fun gv rv wq => ∃ (gg r : Nat), gv = .int .u64 gg ∧ rv = .int .u64 r ∧ r < 4294967296 ∧ gg < 18446744073709551616 ∧ wr.drewN nq = wq ∧ Hid (gg * top + r = X ∧ val us < (gg + 1) * (bp j * V))) (fun gv _ _ => (intOf gv).toNat)
            case atStart => exact ⟨g0, r0', rfl, rfl, hXr, hXt, rfl, HX0⟩
            case round =>
              clear hXt hXr HX0
              obtain ⟨gg, r, rfl, rfl, hr, hg64, rfl, HI⟩ := hrel
              obtain ⟨r2, hr2⟩ : ∃ r2, r2 = r + top := ⟨_, rfl⟩
              have f2 : (r : Int) + (top : Int) = (r2 : Int) := by omega
              have h2b : r2 < 8589934592 := by omega
              by_cases hbig : 4294967296 ≤ gg
              · have t1 : decide ((4294967296 : Int) ≤ (gg : Int)) = true := by rw [decide_eq_true_eq]; omega
                have t2 : decide (4294967296 ≤ gg) = true := by rw [decide_eq_true_eq]; omega
                obtain ⟨g1, hg1⟩ : ∃ g1, g1 = gg - 1 := ⟨_, rfl⟩
                have f1 : (gg : Int) - 1 = (g1 : Int) := by omega
                have HI2 := Lib.hid (show g1 * top + r2 = X ∧ val us < (g1 + 1) * (bp j * V) from ⟨by
                  rw [hr2, ← HI.out.1, show gg = g1 + 1 by omega, Nat.add_mul, Nat.one_mul]; omega, by rw [hg1]; exact HG.out.step_big hbig⟩)
                have hg1b : g1 < gg := by omega
                clear hr2 hg1 HI hbig
                by_cases hrb : 4294967296 ≤ r2
                · have t3 : decide ((4294967296 : Int) ≤ (r2 : Int)) = true := by rw [decide_eq_true_eq]; omega
                  have t4 : decide (4294967296 ≤ r2) = true := by rw [decide_eq_true_eq]; omega
                  have HE := Lib.hid (longCut_left HG.out (by rw [← HX.out]; exact HI2.out.1) HI2.out.2 hrb HR7.out)
                  go_wp2
                  go_meet
                  exact HE.out
                · have t3 : decide ((4294967296 : Int) ≤ (r2 : Int)) = false := by rw [decide_eq_false_iff_not]; omega
                  have t4 : decide (4294967296 ≤ r2) = false := by rw [decide_eq_false_iff_not]; omega
                  have hr2b : r2 < 4294967296 := by omega
                  go_wp2
                  go_roundw
                  case rel => exact ⟨g1, r2, rfl, rfl, hr2b, by omega, by first | rfl | trivial, HI2⟩
                  case measure => simp [intOf]; omega
              · have t1 : decide ((4294967296 : Int) ≤ (gg : Int)) = false := by rw [decide_eq_false_iff_not]; omega
                have t2 : decide (4294967296 ≤ gg) = false := by rw [decide_eq_false_iff_not]; omega
                have hg32 : gg < 4294967296 := by omega
                obtain ⟨m, hm⟩ : ∃ m, m = gg * nx := ⟨_, rfl⟩
                have hm64 : m ≤ 4294967295 * 4294967295 := by rw [hm]; exact Nat.mul_le_mul (by omega) (by omega)
                have f3 : (gg : Int) * (nx : Int) = (m : Int) := by rw [hm]; simp
                obtain ⟨Y, hY⟩ : ∃ Y, Y = r * 4294967296 + dg us J0 := ⟨_, rfl⟩
                have f4 := u64_or_hi r (dg us J0) hr x0
                rw [← hY] at f4
                have hx0 := x0
                have hY64 : Y < 18446744073709551616 := by omega
                by_cases hc : Y < m
                · have t5 : decide ((Y : Int) < (m : Int)) = true := by rw [decide_eq_true_eq]; omega
                  have t6 : decide (Y < m) = true := by rw [decide_eq_true_eq]; omega
                  have hst := HG.out.step (by rw [← HX.out]; exact HI.out.1) (by rw [← hY, ← hm]; exact hc)
                  obtain ⟨g1, hg1⟩ : ∃ g1, g1 = gg - 1 := ⟨_, rfl⟩
                  have f1 : (gg : Int) - 1 = (g1 : Int) := by have := hst.1; omega
                  have HI2 := Lib.hid (show g1 * top + r2 = X ∧ val us < (g1 + 1) * (bp j * V) from ⟨by
                    rw [hr2, ← HI.out.1, show gg = g1 + 1 by have := hst.1; omega, Nat.add_mul, Nat.one_mul]; omega, by rw [hg1]; exact hst.2⟩)
                  have hg1b : g1 < gg := by have := hst.1; omega
                  clear hr2 hg1 HI hbig hst hm hY
                  by_cases hrb : 4294967296 ≤ r2
                  · have t3 : decide ((4294967296 : Int) ≤ (r2 : Int)) = true := by rw [decide_eq_true_eq]; omega
                    have t4 : decide (4294967296 ≤ r2) = true := by rw [decide_eq_true_eq]; omega
                    have HE := Lib.hid (longCut_left HG.out (by rw [← HX.out]; exact HI2.out.1) HI2.out.2 hrb HR7.out)
                    go_wp2
                    go_meet
                    exact HE.out
                  · have t3 : decide ((4294967296 : Int) ≤ (r2 : Int)) = false := by rw [decide_eq_false_iff_not]; omega
                    have t4 : decide (4294967296 ≤ r2) = false := by rw [decide_eq_false_iff_not]; omega
                    have hr2b : r2 < 4294967296 := by omega
                    go_wp2
                    go_roundw
                    case rel => exact ⟨g1, r2, rfl, rfl, hr2b, by omega, by first | rfl | trivial, HI2⟩
                    case measure => simp [intOf]; omega
                · have t5 : decide ((Y : Int) < (m : Int)) = false := by rw [decide_eq_false_iff_not]; omega
                  have t6 : decide (Y < m) = false := by rw [decide_eq_false_iff_not]; omega
                  have HE := Lib.hid (longCut_stop HG.out (by rw [← HX.out]; exact HI.out.1) HI.out.2 hg32 (by rw [← hY, ← hm]; omega) HR7.out)
                  clear hr2 hm hY HI hbig
                  go_wp2
                  go_meet
                  exact HE.out
            -->
          case rest =>
            obtain ⟨gg, rfl, hg32, hR8, HQ⟩ := hcut
            have HR8 := Lib.hid hR8
            clear hR7 hR8
            go_wp2
            go_loopw [18, 19, 143] (fun cv bv iv wq => ∃ (i c b : Nat) (zs : List Nat), i ≤ n' ∧ cv = .int .u64 c ∧ bv = .int .u64 b ∧ iv = .int .i64 i ∧ c < 4294967296 ∧ b ≤ 1 ∧ LongR w4 g6 U cap6 w6.heap.size nz zs qs wq ∧ Hid (val zs + bp j * gg * val ((digs V).take i) = val us + bp (i + j) * (c + b)) ∧ Hid (∀ k, i + j ≤ k → dg zs k = dg us k)) (fun _ _ iv _ => n' - (intOf iv).toNat)
            case atStart => exact ⟨0, 0, 0, us, Nat.zero_le _, rfl, rfl, rfl, by omega, by omega, HR8.out, Lib.hid (by simp [val_nil]), Lib.hid (fun _ _ => rfl)⟩
            case round =>
              obtain ⟨i, c, b, zs, hi', rfl, rfl, rfl, hc32, hb1, hR9, HI, HE⟩ := hrel
              by_cases hin : i < n'
              · skip
                --<
                have hvc := HVK.out _ hR9.u.below i hin
                have hv32 := digs_lt32 V i
                obtain ⟨ij, hij⟩ : ∃ ij, ij = i + j := ⟨_, rfl⟩
                have f0 : (i : Int) + (j : Int) = (ij : Int) := by omega
                have b3 : (ij : Int) < (U : Int) := by have := HU.out; omega
                have huc := hR9.u.cell (k := ij) (by omega)
                have huf := hR9.u.frozen ij
                have hx32 := hR9.u.lt ij
                have b4 : (i : Int) < (n' : Int) := by omega
                obtain ⟨m, hm⟩ : ∃ m, m = gg * dg (digs V) i := ⟨_, rfl⟩
                have hm64 : m ≤ 4294967295 * 4294967295 := by rw [hm]; exact Nat.mul_le_mul (by omega) (by omega)
                have f3 : (gg : Int) * ((dg (digs V) i : Nat) : Int) = (m : Int) := by rw [hm]; simp
                obtain ⟨p, hp⟩ : ∃ p, p = m + c := ⟨_, rfl⟩
                have f4 : (m : Int) + (c : Int) = (p : Int) := by omega
                have hp64 : p < 18446744073709551616 := by omega
                have HM := Lib.hid (show m = gg * dg (digs V) i ∧ p = m + c ∧ ij = i + j from ⟨hm, hp, hij⟩)
                obtain ⟨T, s', c', tb, ⟨e1, e2, e3, e4⟩, hs32, hc'32, htb, hsum, hpc, hT64⟩ := msub_digit (dg zs ij) b p hx32 hb1 hp64
                have HI2 := Lib.hid (show val (zs.set ij s') + bp j * gg * val ((digs V).take (i + 1)) = val us + bp (i + 1 + j) * (c' + tb) by
                  have h9 := sub_digit_eq hsum hpc _ (by rw [hp, hm])
                  rw [hij] at h9 ⊢
                  exact msub_round (by rw [hR9.u.len]; omega) HI.out h9)
                have HE2 := Lib.hid (show ∀ k, i + 1 + j ≤ k → dg (zs.set ij s') k = dg us k from fun k hk => by
                  rw [dg_set, if_neg (by omega)]
                  exact HE.out k (by omega))
                have HR10 := Lib.hid (hR9.setU ij s' hs32)
                clear hm hp hij HI HE HM hsum hpc hR9
                generalize dg zs ij = x at *
                go_wp2
                go_roundw
                case rel => exact ⟨i + 1, c', tb, zs.set ij s', by omega, rfl, rfl, by go_num, hc'32, htb, HR10.out, HI2, HE2⟩
                case measure => simp [intOf]; omega
                -->
              · obtain rfl : i = n' := by omega
                have hJ2 : J2 = i + j := by have h9 := HJ.out; have h8 := HN.out; omega
                have huc := hR9.u.cell (k := J2) (by omega)
                have huf := hR9.u.frozen J2
                have hx32 := hR9.u.lt J2
                have hqc := hR9.q.cell (k := j) (by rw [hR9.len]; omega)
                have hqf := hR9.q.frozen j
                have hne := hR9.ne
                have hne2 : w6.heap.size ≠ g6 := fun e => hne e.symm
                obtain ⟨T, s', tb, ⟨e2, e3, e4⟩, hs32, htb, hsum, hT64⟩ := sub64_digit (dg zs J2) b c hx32 hb1 hc32
                have HD := long_digit (g := gg) HV.out.1 (val_digs V) hvl HV2'.out hV0 hR9.u.lt hs32 (by rw [hR9.u.len]; omega) HI.out HE.out (by rw [← hJ2]; exact hsum) HQ.out
                rw [← hJ2] at HD
                have f5 : (gg : Int) % 4294967296 = (gg : Int) := by omega
                have hgg1 := hg32
                by_cases htb0 : tb = 0
                · skip
                  --<
                  subst htb0
                  have hd9 := HD.1 rfl
                  have HRN := Lib.hid (long_round (qs := qs) (j := j) (q := gg) hV0 (by rw [hR9.len]; omega) HV.out.2 hd9.2 hd9.1)
                  have HR10 := Lib.hid ((hR9.setU J2 s' hs32).setQ j gg hg32)
                  have t1 : (((0 : Nat) : Int) == 0) = true := rfl
                  clear HD hd9 hR9 HI HE hJ2 hsum
                  generalize dg zs J2 = x at *
                  go_wp2
                  go_roundw
                  case rel => exact ⟨j, _, _, by omega, rfl, HR10.out, HRN⟩
                  case measure => simp [intOf]
                  -->
                · have htb1 : tb = 1 := by omega
                  have hd9 := HD.2.1 htb1
                  have hd8 := HD.2.2
                  obtain ⟨g1, hg1⟩ : ∃ g1, g1 = gg - 1 := ⟨_, rfl⟩
                  have hgp : 0 < gg := by rw [hd9.1]; exact Nat.succ_pos _
                  have f1 : (gg : Int) - 1 = (g1 : Int) := by omega
                  have hg1b : g1 < 4294967296 := by omega
                  have HG1 := Lib.hid (show g1 = val us / (bp j * V) by rw [hg1, hd9.1]; rfl)
                  have HT := Lib.hid hd9.2
                  have H0 := Lib.hid (show ∀ k, i + j + 1 ≤ k → dg (zs.set J2 s') k = 0 from fun k hk => hd8 k (by omega))
                  have HR10 := Lib.hid (((hR9.setU J2 s' hs32).setQ j gg hg32).setQ j g1 hg1b)
                  have hzl : (zs.set J2 s').length = U := by rw [List.length_set, hR9.u.len]
                  have HZL := Lib.hid hzl
                  have HJ2 := Lib.hid hJ2
                  have HIN := Lib.hid (show i = n1 + 2 from HN.out.1.symm)
                  have t1 : ((tb : Int) == 0) = false := by rw [beq_eq_false_iff_ne]; omega
                  clear htb1 htb0 htb
                  clear HD hd9 hd8 hR9 HI HE hJ2 hsum hzl hg1 HQ
                  rw [List.set_set] at HR10
                  generalize zs.set J2 s' = zs2 at *
                  generalize dg zs J2 = x at *
                  go_wp2
                  try rw [e3]
                  go_loopw [25, 212] (fun sv iv wq => ∃ (k c : Nat) (ws : List Nat), k ≤ i ∧ sv = .int .u32 c ∧ iv = .int .i64 k ∧ c ≤ 1 ∧ LongR w4 g6 U cap6 w6.heap.size nz ws (qs.set j g1) wq ∧ Hid (val ws + bp (k + j) * c = val zs2 + bp j * val ((digs V).take k)) ∧ Hid (∀ r, k + j ≤ r → dg ws r = dg zs2 r)) (fun _ iv _ => i - (intOf iv).toNat)
                  case atStart => exact ⟨0, 0, zs2, Nat.zero_le _, rfl, rfl, by omega, HR10.out, Lib.hid (by simp [val_nil]), Lib.hid (fun _ _ => rfl)⟩
                  case round =>
                    obtain ⟨k, c, ws, hk', rfl, rfl, hc1, hR11, HI, HE⟩ := hrel
                    by_cases hki : k < i
                    · have hvc := HVK.out _ hR11.u.below k hki
                      have hv32 := digs_lt32 V k
                      obtain ⟨ij, hij⟩ : ∃ ij, ij = k + j := ⟨_, rfl⟩
                      have f0 : (k : Int) + (j : Int) = (ij : Int) := by omega
                      have b3 : (ij : Int) < (U : Int) := by have := HU.out; omega
                      have huc := hR11.u.cell (k := ij) (by omega)
                      have huf := hR11.u.frozen ij
                      have hx32 := hR11.u.lt ij
                      have b4 : (k : Int) < (i : Int) := by omega
                      obtain ⟨s2, hs2⟩ : ∃ s2, (dg ws ij + dg (digs V) k + c) % 4294967296 = s2 := ⟨_, rfl⟩
                      obtain ⟨c2', hc2⟩ : ∃ c2', (dg ws ij + dg (digs V) k + c) / 4294967296 = c2' := ⟨_, rfl⟩
                      have HADD := Lib.hid (fun W => add32_to (dg ws ij) (dg (digs V) k) c s2 c2' W hx32 hv32 hc1 hs2 hc2)
                      have hs2b : s2 < 4294967296 := by rw [← hs2]; exact Nat.mod_lt _ (by omega)
                      have hc2b : c2' ≤ 1 := by omega
                      have HI2 := Lib.hid (show val (ws.set ij s2) + bp (k + 1 + j) * c2' = val zs2 + bp j * val ((digs V).take (k + 1)) by
                        have h9 : s2 + 4294967296 * c2' = dg ws (k + j) + dg (digs V) k + c := by rw [← hij]; omega
                        rw [hij]
                        exact addb_round (by rw [hR11.u.len]; omega) HI.out h9)
                      have HE2 := Lib.hid (show ∀ r, k + 1 + j ≤ r → dg (ws.set ij s2) r = dg zs2 r from fun r hr => by
                        rw [dg_set, if_neg (by omega)]
                        exact HE.out r (by omega))
                      have HR12 := Lib.hid (hR11.setU ij s2 hs2b)
                      clear hij HI HE hR11 hs2 hc2
                      generalize dg ws ij = x at *
                      go_wp2_with fail
                      refine (HADD.out _).mono ?_
                      rintro e w9 ⟨rfl, rfl⟩
                      go_wp2
                      go_roundw
                      case rel => exact ⟨k + 1, c2', ws.set ij s2, by omega, rfl, by go_num, hc2b, HR12.out, HI2, HE2⟩
                      case measure => simp [intOf]; omega
                    · obtain rfl : k = i := by omega
                      have huc := hR11.u.cell (k := J2) (by omega)
                      have huf := hR11.u.frozen J2
                      have hx32 := hR11.u.lt J2
                      obtain ⟨s3, h3, e5, e6, hs3b⟩ : ∃ s3 h3 : Nat, IntKind.u32.wrap (((dg ws J2 : Nat) : Int) + (c : Int)) = (s3 : Int) ∧ s3 + 4294967296 * h3 = dg ws J2 + c ∧ s3 < 4294967296 :=
                        ⟨(dg ws J2 + c) % 4294967296, (dg ws J2 + c) / 4294967296, by rw [IntKind.wrap_u32]; omega, by omega, by omega⟩
                      have e7 := e6
                      rw [HJ2.out] at e7
                      have HT7 := HT.out
                      rw [HJ2.out] at HT7
                      have hfin := long_back (ws := ws) (zs := zs2) (us := us) (V := V) (s := s3) (h' := h3) (val_digs V) hvl HV2'.out hV0 hR11.u.lt hs3b (by rw [hR11.u.len, ← HJ2.out]; omega) HI.out HE.out H0.out e7 HT7
                      rw [← HJ2.out] at hfin
                      have HRN := Lib.hid (long_round (qs := qs) (j := j) (q := g1) hV0 (by have := hR11.len; rw [List.length_set] at this; omega) HV.out.2 hfin HG1.out)
                      have HR12 := Lib.hid (hR11.setU J2 s3 hs3b)
                      clear hfin hR11 HI HE e6 e7 HT7
                      generalize dg ws J2 = x at *
                      go_wp2
                      go_roundw
                      case rel => exact ⟨j, _, _, by omega, rfl, HR12.out, HRN⟩
                      case measure => simp [intOf]
end Go.Proofs.YtnknidfpkmnncaaGreat
