/- Plain laws of polynomials as lists of terms: coefficients, canonical form. -/
import Derived.Test.YtnknidfpkmnncaaP
namespace Go.Proofs.Ytnknidfpkmnncaa

/-- A term: a coefficient and its exponents. -/
abbrev Tm := Int × Ex
/-- The coefficient at e. -/
def cf : List Tm → Ex → Int
  | [], _ => 0
  | p :: l, e => (if p.2 = e then p.1 else 0) + cf l e
/-- The sum of the absolute values of the coefficients. -/
def l1 : List Tm → Nat
  | [] => 0
  | p :: l => p.1.natAbs + l1 l
theorem cf_nil (e : Ex) : cf [] e = 0 := rfl
theorem cf_cons (p : Tm) (l : List Tm) (e : Ex) : cf (p :: l) e = (if p.2 = e then p.1 else 0) + cf l e := rfl
theorem l1_nil : l1 [] = 0 := rfl
theorem l1_cons (p : Tm) (l : List Tm) : l1 (p :: l) = p.1.natAbs + l1 l := rfl
theorem cf_append (a b : List Tm) (e : Ex) : cf (a ++ b) e = cf a e + cf b e := by
  induction a with
  | nil => simp [cf]
  | cons p a ih => rw [List.cons_append, cf_cons, cf_cons, ih]; omega
theorem l1_append (a b : List Tm) : l1 (a ++ b) = l1 a + l1 b := by
  induction a with
  | nil => simp [l1]
  | cons p a ih => rw [List.cons_append, l1_cons, l1_cons, ih]; omega
theorem cf_perm {a b : List Tm} (h : a.Perm b) (e : Ex) : cf a e = cf b e := by
  induction h with
  | nil => rfl
  | cons p _ ih => rw [cf_cons, cf_cons, ih]
  | swap p q l => rw [cf_cons, cf_cons, cf_cons, cf_cons]; omega
  | trans _ _ ih1 ih2 => rw [ih1, ih2]
theorem l1_perm {a b : List Tm} (h : a.Perm b) : l1 a = l1 b := by
  induction h with
  | nil => rfl
  | cons p _ ih => rw [l1_cons, l1_cons, ih]
  | swap p q l => rw [l1_cons, l1_cons, l1_cons, l1_cons]; omega
  | trans _ _ ih1 ih2 => rw [ih1, ih2]
theorem l1_mem {p : Tm} {l : List Tm} (h : p ∈ l) : p.1.natAbs ≤ l1 l := by
  induction l with
  | nil => cases h
  | cons q l ih =>
    rw [l1_cons]
    rcases List.mem_cons.1 h with rfl | h
    · omega
    · have := ih h; omega
theorem l1_filter (f : Tm → Bool) (l : List Tm) : l1 (l.filter f) ≤ l1 l := by
  induction l with
  | nil => exact Nat.le_refl _
  | cons p l ih =>
    rw [List.filter_cons, l1_cons]
    split
    · rw [l1_cons]; omega
    · omega
theorem l1_take (l : List Tm) (k : Nat) : l1 (l.take k) ≤ l1 l := by
  induction l generalizing k with
  | nil => simp [l1]
  | cons p l ih =>
    cases k with
    | zero => simp [l1]
    | succ k => rw [List.take_succ_cons, l1_cons, l1_cons]; have := ih k; omega

/-- The canonical form: exponents strictly descend, no coefficient is 0, no exponent is negative. -/
def Canon (al : List Tm) : Prop := al.Pairwise (fun p q => 0 < cmpE p.2 q.2) ∧ ∀ p ∈ al, p.1 ≠ 0 ∧ validE p.2 = true
theorem Canon.nil : Canon [] := ⟨List.Pairwise.nil, fun _ h => by cases h⟩
theorem Canon.tail {p : Tm} {l : List Tm} (h : Canon (p :: l)) : Canon l := ⟨(List.pairwise_cons.1 h.1).2, fun q hq => h.2 q (List.mem_cons_of_mem _ hq)⟩
theorem cf_far {l : List Tm} {e : Ex} (h : ∀ q ∈ l, q.2 ≠ e) : cf l e = 0 := by
  induction l with
  | nil => rfl
  | cons p l ih =>
    rw [cf_cons, if_neg (h p (by simp)), ih (fun q hq => h q (List.mem_cons_of_mem _ hq))]
    rfl
theorem cmpE_ne {e f : Ex} (h : 0 < cmpE e f) : f ≠ e := by
  rintro rfl
  have := (cmpE_zero (e := f) (f := f)).2 rfl
  omega
theorem Canon.head {p : Tm} {l : List Tm} (h : Canon (p :: l)) : cf (p :: l) p.2 = p.1 := by
  rw [cf_cons, if_pos rfl, cf_far (fun q hq => cmpE_ne ((List.pairwise_cons.1 h.1).1 q hq))]
  omega
theorem canon_unique {a b : List Tm} (ha : Canon a) (hb : Canon b) (h : ∀ e, cf a e = cf b e) : a = b := by
  induction a generalizing b with
  | nil =>
    cases b with
    | nil => rfl
    | cons q b =>
      have h1 := h q.2
      rw [hb.head] at h1
      exact absurd h1.symm (hb.2 q (by simp)).1
  | cons p a ih =>
    cases b with
    | nil =>
      have h1 := h p.2
      rw [ha.head] at h1
      exact absurd h1 (ha.2 p (by simp)).1
    | cons q b =>
      have hpq : p.2 = q.2 := by
        rcases Int.lt_trichotomy (cmpE p.2 q.2) 0 with h1 | h1 | h1
        · exfalso
          have h2 := h q.2
          rw [hb.head] at h2
          have h3 : cf (p :: a) q.2 = 0 := cf_far (fun r hr he => by
            have h5 : 0 < cmpE q.2 p.2 := by rw [cmpE_neg p.2 q.2]; omega
            rcases List.mem_cons.1 hr with rfl | hr
            · exact cmpE_ne h5 he
            · have h4 := (List.pairwise_cons.1 ha.1).1 r hr
              rw [he] at h4
              omega)
          rw [h3] at h2
          exact (hb.2 q (by simp)).1 h2.symm
        · exact cmpE_zero.1 h1
        · exfalso
          have h2 := h p.2
          rw [ha.head] at h2
          have h3 : cf (q :: b) p.2 = 0 := cf_far (fun r hr he => by
            rcases List.mem_cons.1 hr with rfl | hr
            · exact cmpE_ne h1 he
            · have h4 := (List.pairwise_cons.1 hb.1).1 r hr
              rw [he, cmpE_neg p.2 q.2] at h4
              omega)
          rw [h3] at h2
          exact (ha.2 p (by simp)).1 h2
      have hc : p.1 = q.1 := by
        have h1 := h p.2
        rw [ha.head] at h1
        rw [h1, hpq, hb.head]
      have hpq' : p = q := Prod.ext hc hpq
      subst hpq'
      rw [ih ha.tail hb.tail (fun e => by have := h e; rw [cf_cons, cf_cons] at this; omega)]

/-- One more term in a canonical list. -/
def ins (p : Tm) : List Tm → List Tm
  | [] => if p.1 = 0 then [] else [p]
  | q :: l => if 0 < cmpE p.2 q.2 then (if p.1 = 0 then q :: l else p :: q :: l)
    else if p.2 = q.2 then (if p.1 + q.1 = 0 then l else (p.1 + q.1, q.2) :: l) else q :: ins p l
theorem cf_ins (p : Tm) (l : List Tm) (e : Ex) : cf (ins p l) e = (if p.2 = e then p.1 else 0) + cf l e := by
  induction l with
  | nil =>
    unfold ins
    split
    · rename_i h; rw [h]; simp [cf]
    · simp [cf]
  | cons q l ih =>
    unfold ins
    split
    · split
      · rename_i h; rw [h]; simp
      · rw [cf_cons]
    · split
      · rename_i h1 h2
        rw [cf_cons, h2]
        split
        · rename_i h3
          split <;> omega
        · rw [cf_cons]
          split <;> omega
      · rw [cf_cons, cf_cons, ih]; omega
theorem mem_ins {p r : Tm} {l : List Tm} (h : r ∈ ins p l) : r.2 = p.2 ∨ ∃ q ∈ l, r.2 = q.2 := by
  induction l with
  | nil =>
    unfold ins at h
    split at h
    · cases h
    · left; rw [List.mem_singleton.1 h]
  | cons q l ih =>
    unfold ins at h
    split at h
    · split at h
      · right; exact ⟨r, h, rfl⟩
      · rcases List.mem_cons.1 h with rfl | h
        · left; rfl
        · right; exact ⟨r, h, rfl⟩
    · split at h
      · split at h
        · right; exact ⟨r, List.mem_cons_of_mem _ h, rfl⟩
        · rcases List.mem_cons.1 h with rfl | h
          · right; exact ⟨q, by simp, rfl⟩
          · right; exact ⟨r, List.mem_cons_of_mem _ h, rfl⟩
      · rcases List.mem_cons.1 h with rfl | h
        · right; exact ⟨r, by simp, rfl⟩
        · rcases ih h with h1 | ⟨q', hq', h1⟩
          · left; exact h1
          · right; exact ⟨q', List.mem_cons_of_mem _ hq', h1⟩
theorem canon_ins {p : Tm} {l : List Tm} (h : Canon l) (hv : validE p.2 = true) : Canon (ins p l) := by
  induction l with
  | nil =>
    unfold ins
    split
    · exact h
    · rename_i hp
      exact ⟨by simp, fun q hq => by rw [List.mem_singleton.1 hq]; exact ⟨hp, hv⟩⟩
  | cons q l ih =>
    have ht := h.tail
    have hq := List.pairwise_cons.1 h.1
    unfold ins
    split
    · rename_i h1
      split
      · exact h
      · rename_i hp
        refine ⟨List.pairwise_cons.2 ⟨fun r hr => ?_, h.1⟩, fun r hr => ?_⟩
        · rcases List.mem_cons.1 hr with rfl | hr
          · exact h1
          · have h2 := hq.1 r hr
            have h3 := cmpTo_trans (e := p.2) (f := q.2) (g := r.2) 4 (by show 0 ≤ cmpE _ _; omega) (by show 0 ≤ cmpE _ _; omega)
            have h4 : 0 ≤ cmpE p.2 r.2 := h3.1
            have h5 : cmpE p.2 r.2 ≠ 0 := fun h6 => by
              have h7 := (h3.2 h6).1
              have : cmpE p.2 q.2 = 0 := h7
              omega
            omega
        · rcases List.mem_cons.1 hr with rfl | hr
          · exact ⟨hp, hv⟩
          · exact h.2 r hr
    · split
      · rename_i h1 h2
        split
        · exact ht
        · rename_i h3
          refine ⟨List.pairwise_cons.2 ⟨fun r hr => hq.1 r hr, hq.2⟩, fun r hr => ?_⟩
          rcases List.mem_cons.1 hr with rfl | hr
          · exact ⟨h3, (h.2 q (by simp)).2⟩
          · exact h.2 r (List.mem_cons_of_mem _ hr)
      · rename_i h1 h2
        have hi := ih ht
        refine ⟨List.pairwise_cons.2 ⟨fun r hr => ?_, hi.1⟩, fun r hr => ?_⟩
        · rcases mem_ins hr with h3 | ⟨s, hs, h3⟩
          · rw [h3, cmpE_neg p.2 q.2]
            have : cmpE p.2 q.2 ≠ 0 := fun h4 => h2 (cmpE_zero.1 h4)
            omega
          · rw [h3]; exact hq.1 s hs
        · rcases List.mem_cons.1 hr with rfl | hr
          · exact h.2 r (by simp)
          · exact hi.2 r hr
theorem l1_ins (p : Tm) (l : List Tm) : l1 (ins p l) ≤ p.1.natAbs + l1 l := by
  induction l with
  | nil => unfold ins; split <;> simp [l1]
  | cons q l ih =>
    unfold ins
    split
    · split
      · omega
      · rw [l1_cons]; exact Nat.le_refl _
    · split
      · split
        · rw [l1_cons]; omega
        · rw [l1_cons, l1_cons]; simp only; omega
      · rw [l1_cons, l1_cons]; omega
theorem length_ins (p : Tm) (l : List Tm) : (ins p l).length ≤ l.length + 1 := by
  induction l with
  | nil => unfold ins; split <;> simp
  | cons q l ih =>
    unfold ins
    split
    · split <;> simp
    · split
      · split <;> simp; omega
      · simp; exact ih

/-- The terms without a negative exponent. -/
def valids (al : List Tm) : List Tm := al.filter fun p => validE p.2
/-- The canonical form. -/
def nf (al : List Tm) : List Tm := (valids al).foldr ins []
theorem canon_foldr (al : List Tm) (h : ∀ p ∈ al, validE p.2 = true) : Canon (al.foldr ins []) := by
  induction al with
  | nil => exact Canon.nil
  | cons p al ih => exact canon_ins (ih fun q hq => h q (List.mem_cons_of_mem _ hq)) (h p (by simp))
theorem valids_valid (al : List Tm) : ∀ p ∈ valids al, validE p.2 = true := fun p hp => by
  have := (List.mem_filter.1 hp).2
  simpa using this
theorem nf_canon (al : List Tm) : Canon (nf al) := canon_foldr _ (valids_valid al)
theorem cf_foldr (al : List Tm) (e : Ex) : cf (al.foldr ins []) e = cf al e := by
  induction al with
  | nil => rfl
  | cons p al ih => rw [List.foldr_cons, cf_ins, ih, cf_cons]
theorem cf_nf (al : List Tm) (e : Ex) : cf (nf al) e = cf (valids al) e := cf_foldr _ e
theorem l1_foldr (al : List Tm) : l1 (al.foldr ins []) ≤ l1 al := by
  induction al with
  | nil => exact Nat.le_refl _
  | cons p al ih => rw [List.foldr_cons, l1_cons]; have := l1_ins p (al.foldr ins []); omega
theorem l1_nf (al : List Tm) : l1 (nf al) ≤ l1 al := Nat.le_trans (l1_foldr _) (l1_filter _ _)
theorem length_foldr (al : List Tm) : (al.foldr ins []).length ≤ al.length := by
  induction al with
  | nil => exact Nat.le_refl _
  | cons p al ih => rw [List.foldr_cons, List.length_cons]; have := length_ins p (al.foldr ins []); omega
theorem length_nf (al : List Tm) : (nf al).length ≤ al.length := Nat.le_trans (length_foldr _) (List.length_filter_le _ _)
theorem valids_of_canon {al : List Tm} (h : Canon al) : valids al = al := List.filter_eq_self.2 fun p hp => (h.2 p hp).2
/-- What is canonical and has the coefficients is the canonical form. -/
theorem eq_nf {al r : List Tm} (hr : Canon r) (h : ∀ e, cf r e = cf (valids al) e) : r = nf al := canon_unique hr (nf_canon al) fun e => by rw [h e, cf_nf]
theorem nf_of_canon {al : List Tm} (h : Canon al) : nf al = al := (eq_nf h fun e => by rw [valids_of_canon h]).symm
theorem nf_nf (al : List Tm) : nf (nf al) = nf al := nf_of_canon (nf_canon al)

/-- One more term in the merging loop: it is added to the last one, or stands behind it. -/
def mstep (out : List Tm) (p : Tm) : List Tm :=
  match out.getLast? with
  | some q => if q.2 = p.2 then out.dropLast ++ [(q.1 + p.1, q.2)] else out ++ [p]
  | none => [p]
theorem mstep_nil (p : Tm) : mstep [] p = [p] := rfl
theorem mstep_same (O : List Tm) (q p : Tm) (h : q.2 = p.2) : mstep (O ++ [q]) p = O ++ [(q.1 + p.1, q.2)] := by
  simp [mstep, h]
theorem mstep_other (O : List Tm) (q p : Tm) (h : q.2 ≠ p.2) : mstep (O ++ [q]) p = O ++ [q] ++ [p] := by
  simp [mstep, h]
theorem cf_mstep (out : List Tm) (p : Tm) (e : Ex) : cf (mstep out p) e = cf out e + (if p.2 = e then p.1 else 0) := by
  rcases List.eq_nil_or_concat out with rfl | ⟨O, q, rfl⟩
  · simp [mstep_nil, cf]
  · rw [List.concat_eq_append]
    by_cases h : q.2 = p.2
    · rw [mstep_same O q p h, cf_append, cf_append, cf_cons, cf_cons, h]
      simp only [cf_nil]
      split <;> omega
    · rw [mstep_other O q p h, cf_append, cf_cons]
      simp only [cf_nil]
      omega
theorem l1_mstep (out : List Tm) (p : Tm) : l1 (mstep out p) ≤ l1 out + p.1.natAbs := by
  rcases List.eq_nil_or_concat out with rfl | ⟨O, q, rfl⟩
  · simp [mstep_nil, l1]
  · rw [List.concat_eq_append]
    by_cases h : q.2 = p.2
    · rw [mstep_same O q p h, l1_append, l1_append, l1_cons, l1_cons, l1_nil]
      simp only
      omega
    · rw [mstep_other O q p h, l1_append, l1_cons, l1_nil]; omega
theorem length_mstep (out : List Tm) (p : Tm) : (mstep out p).length ≤ out.length + 1 := by
  rcases List.eq_nil_or_concat out with rfl | ⟨O, q, rfl⟩
  · simp [mstep_nil]
  · rw [List.concat_eq_append]
    by_cases h : q.2 = p.2
    · rw [mstep_same O q p h]; simp
    · rw [mstep_other O q p h]; simp
/-- The state of the merging: exponents strictly descend, the last one is not above what comes. -/
def MOk (out : List Tm) : Prop := out.Pairwise (fun p q => 0 < cmpE p.2 q.2) ∧ ∀ p ∈ out, validE p.2 = true
theorem MOk.step {out : List Tm} {p : Tm} (h : MOk out) (hv : validE p.2 = true) (hl : ∀ q ∈ out, 0 ≤ cmpE q.2 p.2) : MOk (mstep out p) := by
  rcases List.eq_nil_or_concat out with rfl | ⟨O, q, rfl⟩
  · rw [mstep_nil]
    exact ⟨by simp, fun r hr => by rw [List.mem_singleton.1 hr]; exact hv⟩
  · rw [List.concat_eq_append] at h hl ⊢
    by_cases he : q.2 = p.2
    · rw [mstep_same O q p he]
      have h1 := List.pairwise_append.1 h.1
      refine ⟨List.pairwise_append.2 ⟨h1.1, by simp, fun a ha b hb => ?_⟩, fun r hr => ?_⟩
      · rw [List.mem_singleton.1 hb]
        exact h1.2.2 a ha q (by simp)
      · rcases List.mem_append.1 hr with hr | hr
        · exact h.2 r (List.mem_append_left _ hr)
        · rw [List.mem_singleton.1 hr]; exact h.2 q (by simp)
    · rw [mstep_other O q p he]
      refine ⟨List.pairwise_append.2 ⟨h.1, by simp, fun a ha b hb => ?_⟩, fun r hr => ?_⟩
      · rw [List.mem_singleton.1 hb]
        have h0 := hl a ha
        rcases List.mem_append.1 ha with ha | ha
        · have h1 := (List.pairwise_append.1 h.1).2.2 a ha q (by simp)
          have h2 := hl q (by simp)
          have h3 := cmpTo_trans (e := a.2) (f := q.2) (g := p.2) 4 (by show 0 ≤ cmpE _ _; omega) h2
          have h5 : cmpE a.2 p.2 ≠ 0 := fun h6 => by
            have h7 : cmpE a.2 q.2 = 0 := (h3.2 h6).1
            omega
          omega
        · rw [List.mem_singleton.1 ha] at h0 ⊢
          have : cmpE q.2 p.2 ≠ 0 := fun h4 => he (cmpE_zero.1 h4)
          omega
      · rcases List.mem_append.1 hr with hr | hr
        · exact h.2 r hr
        · rw [List.mem_singleton.1 hr]; exact hv
theorem mem_mstep {out : List Tm} {p r : Tm} (h : r ∈ mstep out p) : r.2 = p.2 ∨ ∃ q ∈ out, r.2 = q.2 := by
  rcases List.eq_nil_or_concat out with rfl | ⟨O, q, rfl⟩
  · rw [mstep_nil] at h; left; rw [List.mem_singleton.1 h]
  · rw [List.concat_eq_append] at h ⊢
    by_cases he : q.2 = p.2
    · rw [mstep_same O q p he] at h
      rcases List.mem_append.1 h with h | h
      · right; exact ⟨r, List.mem_append_left _ h, rfl⟩
      · left; rw [List.mem_singleton.1 h]; exact he
    · rw [mstep_other O q p he] at h
      rcases List.mem_append.1 h with h | h
      · right; exact ⟨r, h, rfl⟩
      · left; rw [List.mem_singleton.1 h]
/-- The merging of a sorted list. -/
def merged (al : List Tm) : List Tm := al.foldl mstep []
theorem merged_snoc (al : List Tm) (p : Tm) : merged (al ++ [p]) = mstep (merged al) p := by simp [merged]
theorem merged_facts (al : List Tm) (hs : al.Pairwise (fun p q => 0 ≤ cmpE p.2 q.2)) (hv : ∀ p ∈ al, validE p.2 = true) :
    MOk (merged al) ∧ (∀ e, cf (merged al) e = cf al e) ∧ l1 (merged al) ≤ l1 al ∧ (merged al).length ≤ al.length ∧ (∀ r ∈ merged al, ∃ q ∈ al, r.2 = q.2) := by
  obtain ⟨n, hn⟩ : ∃ n, al.length = n := ⟨_, rfl⟩
  induction n generalizing al with
  | zero =>
    have : al = [] := List.eq_nil_of_length_eq_zero hn
    subst this
    exact ⟨⟨List.Pairwise.nil, fun _ h => by cases h⟩, fun _ => rfl, Nat.le_refl _, Nat.le_refl _, fun _ h => by cases h⟩
  | succ n ih =>
    rcases List.eq_nil_or_concat al with rfl | ⟨a, p, rfl⟩
    · simp at hn
    · rw [List.concat_eq_append] at *
      have hl : a.length = n := by simpa using hn
      have hs' := List.pairwise_append.1 hs
      obtain ⟨i1, i2, i3, i4, i5⟩ := ih a hs'.1 (fun q hq => hv q (List.mem_append_left _ hq)) hl
      rw [merged_snoc]
      refine ⟨i1.step (hv p (by simp)) (fun q hq => ?_), fun e => ?_, ?_, ?_, fun r hr => ?_⟩
      · obtain ⟨q', hq', he⟩ := i5 q hq
        rw [he]; exact hs'.2.2 q' hq' p (by simp)
      · rw [cf_mstep, i2, cf_append, cf_cons, cf_nil]; omega
      · have := l1_mstep (merged a) p; rw [l1_append, l1_cons, l1_nil]; omega
      · have := length_mstep (merged a) p; simp; omega
      · rcases mem_mstep hr with h | ⟨q, hq, h⟩
        · exact ⟨p, by simp, h⟩
        · obtain ⟨q', hq', he⟩ := i5 q hq
          exact ⟨q', List.mem_append_left _ hq', h.trans he⟩
/-- The terms whose coefficient is not 0. -/
def nonzero (al : List Tm) : List Tm := al.filter fun p => !(p.1 == 0)
theorem cf_nonzero (al : List Tm) (e : Ex) : cf (nonzero al) e = cf al e := by
  induction al with
  | nil => rfl
  | cons p al ih =>
    unfold nonzero at ih ⊢
    rw [List.filter_cons, cf_cons]
    split
    · rw [cf_cons, ih]
    · rename_i h
      have : p.1 = 0 := by simpa using h
      rw [ih, this]; simp
/-- What Normal comes to. -/
theorem normal_eq {al sl : List Tm} (hp : sl.Perm (valids al)) (hs : sl.Pairwise (fun p q => 0 ≤ cmpE p.2 q.2)) : nonzero (merged sl) = nf al := by
  have hv : ∀ p ∈ sl, validE p.2 = true := fun p hm => valids_valid al p (hp.mem_iff.1 hm)
  obtain ⟨h1, h2, _⟩ := merged_facts sl hs hv
  refine eq_nf ⟨h1.1.filter _, fun p hm => ?_⟩ fun e => by rw [cf_nonzero, h2, cf_perm hp]
  have := List.mem_filter.1 hm
  exact ⟨by simpa using this.2, h1.2 p this.1⟩
end Go.Proofs.Ytnknidfpkmnncaa
