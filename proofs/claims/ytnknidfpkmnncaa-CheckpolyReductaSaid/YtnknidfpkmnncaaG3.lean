/- Plain laws: the highest terms of a polynomial, taken away. -/
import Derived.Test.YtnknidfpkmnncaaR3
import Derived.Test.YtnknidfpkmnncaaG2
namespace Go.Proofs.Ytnknidfpkmnncaa

/-- k added to the exponent at j. -/
def shiftE (j : Nat) (k : Int) (e : Ex) : Ex := match j with
  | 0 => (e.1 + k, e.2.1, e.2.2.1, e.2.2.2)
  | 1 => (e.1, e.2.1 + k, e.2.2.1, e.2.2.2)
  | 2 => (e.1, e.2.1, e.2.2.1 + k, e.2.2.2)
  | _ => (e.1, e.2.1, e.2.2.1, e.2.2.2 + k)
def shiftL (j : Nat) (k : Int) (al : List Tm) : List Tm := al.map fun p => (p.1, shiftE j k p.2)
theorem ex_shift (j : Nat) (hj : j < 4) (k : Int) (e : Ex) (i : Nat) (hi : i < 4) : ex (shiftE j k e) i = if i = j then ex e i + k else ex e i := by
  match j, hj, i, hi with
  | 0, _, 0, _ => rfl
  | 0, _, 1, _ => rfl
  | 0, _, 2, _ => rfl
  | 0, _, 3, _ => rfl
  | 1, _, 0, _ => rfl
  | 1, _, 1, _ => rfl
  | 1, _, 2, _ => rfl
  | 1, _, 3, _ => rfl
  | 2, _, 0, _ => rfl
  | 2, _, 1, _ => rfl
  | 2, _, 2, _ => rfl
  | 2, _, 3, _ => rfl
  | 3, _, 0, _ => rfl
  | 3, _, 1, _ => rfl
  | 3, _, 2, _ => rfl
  | 3, _, 3, _ => rfl
theorem cmpTo_same {e f e' f' : Ex} (h : ∀ i, i < 4 → (ex e i < ex f i ↔ ex e' i < ex f' i) ∧ (ex f i < ex e i ↔ ex f' i < ex e' i)) : ∀ k, k ≤ 4 → cmpTo e f k = cmpTo e' f' k := by
  intro k
  induction k with
  | zero => intro _; rfl
  | succ k ih =>
    intro hk
    have h1 := h k (by omega)
    have h2 := ih (by omega)
    unfold cmpTo
    rw [h2]
    by_cases a : ex e k < ex f k
    · rw [if_pos a, if_pos (h1.1.1 a)]
    · rw [if_neg a, if_neg (fun x => a (h1.1.2 x))]
      by_cases b : ex f k < ex e k
      · rw [if_pos b, if_pos (h1.2.1 b)]
      · rw [if_neg b, if_neg (fun x => b (h1.2.2 x))]
theorem cmp_shift (j : Nat) (hj : j < 4) (k : Int) (e f : Ex) : cmpE (shiftE j k e) (shiftE j k f) = cmpE e f := by
  refine (cmpTo_same fun i hi => ?_) 4 (Nat.le_refl _)
  rw [ex_shift j hj k e i hi, ex_shift j hj k f i hi]
  split <;> omega
theorem shift_canon {j : Nat} (hj : j < 4) {k : Int} (hk : 0 ≤ k) {al : List Tm} (h : Canon al) : Canon (shiftL j k al) := by
  unfold shiftL
  constructor
  · rw [List.pairwise_map]
    refine h.1.imp fun {p q} hpq => ?_
    show 0 < cmpE (shiftE j k p.2) (shiftE j k q.2)
    rw [cmp_shift j hj]
    exact hpq
  · intro p hp
    obtain ⟨q, hq, rfl⟩ := List.mem_map.1 hp
    refine ⟨(h.2 q hq).1, validE_iff.2 fun i hi => ?_⟩
    show 0 ≤ ex (shiftE j k q.2) i
    rw [ex_shift j hj k q.2 i hi]
    have := validE_iff.1 (h.2 q hq).2 i hi
    split <;> omega
theorem shift_shift (j : Nat) (hj : j < 4) (k l : Int) (e : Ex) : shiftE j l (shiftE j k e) = shiftE j (k + l) e := by
  match j, hj with
  | 0, _ => simp [shiftE, Int.add_assoc]
  | 1, _ => simp [shiftE, Int.add_assoc]
  | 2, _ => simp [shiftE, Int.add_assoc]
  | 3, _ => simp [shiftE, Int.add_assoc]
theorem shiftL_shiftL (j : Nat) (hj : j < 4) (k l : Int) (al : List Tm) : shiftL j l (shiftL j k al) = shiftL j (k + l) al := by
  unfold shiftL
  rw [List.map_map]
  refine List.map_congr_left fun p _ => ?_
  show (p.1, shiftE j l (shiftE j k p.2)) = _
  rw [shift_shift j hj]
theorem shiftL_zero (j : Nat) (hj : j < 4) (al : List Tm) : shiftL j 0 al = al := by
  unfold shiftL
  have : ∀ p : Tm, (p.1, shiftE j 0 p.2) = p := fun p => by
    match j, hj with
    | 0, _ => simp [shiftE]
    | 1, _ => simp [shiftE]
    | 2, _ => simp [shiftE]
    | 3, _ => simp [shiftE]
  simp [this]
theorem varL_eq (j : Nat) (hj : j < 4) : varL (j + 1) = [(1, unitE (j + 1))] := by
  unfold varL
  rw [if_pos ⟨by omega, by omega⟩]
theorem varL_canon (j : Nat) (hj : j < 4) : Canon (varL (j + 1)) := by
  rw [varL_eq j hj]
  refine ⟨by simp, fun p hp => ?_⟩
  rw [List.mem_singleton.1 hp]
  match j, hj with
  | 0, _ => exact ⟨by decide, by decide⟩
  | 1, _ => exact ⟨by decide, by decide⟩
  | 2, _ => exact ⟨by decide, by decide⟩
  | 3, _ => exact ⟨by decide, by decide⟩
theorem mul_var (j : Nat) (hj : j < 4) (a : List Tm) : prodL a (varL (j + 1)) = shiftL j 1 a := by
  rw [varL_eq j hj]
  unfold prodL shiftL
  induction a with
  | nil => rfl
  | cons p a ih =>
    rw [List.flatMap_cons, ih]
    show mulT p (1, unitE (j + 1)) :: _ = (p.1, shiftE j 1 p.2) :: _
    congr 1
    unfold mulT
    rw [Int.mul_one]
    congr 1
    match j, hj with
    | 0, _ => simp [addE, unitE, shiftE]
    | 1, _ => simp [addE, unitE, shiftE]
    | 2, _ => simp [addE, unitE, shiftE]
    | 3, _ => simp [addE, unitE, shiftE]
theorem mulp_var (j : Nat) (hj : j < 4) {a : List Tm} (h : Canon a) : nf (prodL (nf a) (nf (varL (j + 1)))) = shiftL j 1 a := by
  rw [nf_of_canon h, nf_of_canon (varL_canon j hj), mul_var j hj, nf_of_canon (shift_canon hj (by omega) h)]
/-- The terms of degree d. -/
def topL (j : Nat) (d : Int) (al : List Tm) : List Tm := al.filter fun p => ex p.2 j == d
theorem shift_coef (j : Nat) (hj : j < 4) (d : Int) (al : List Tm) : shiftL j d (coefL j d al) = topL j d al := by
  unfold shiftL coefL topL
  rw [List.map_map]
  have : ∀ p ∈ al.filter (fun p => ex p.2 j == d), ((fun p : Tm => (p.1, shiftE j d p.2)) ∘ fun p : Tm => (p.1, zeroE j p.2)) p = p := by
    intro p hp
    have h1 := (List.mem_filter.1 hp).2
    rw [beq_iff_eq] at h1
    show (p.1, shiftE j d (zeroE j p.2)) = p
    match j, hj, h1 with
    | 0, _, h1 => simp only [ex] at h1; simp [shiftE, zeroE, ← h1]
    | 1, _, h1 => simp only [ex] at h1; simp [shiftE, zeroE, ← h1]
    | 2, _, h1 => simp only [ex] at h1; simp [shiftE, zeroE, ← h1]
    | 3, _, h1 => simp only [ex] at h1; simp [shiftE, zeroE, ← h1]
  rw [List.map_congr_left this]
  simp
theorem cf_negL (al : List Tm) (e : Ex) : cf (negL al) e = -cf al e := by
  induction al with
  | nil => rfl
  | cons p al ih =>
    show cf ((-p.1, p.2) :: negL al) e = _
    rw [cf_cons, cf_cons, ih]
    simp only
    split <;> omega
theorem cf_split (q : Tm → Bool) (al : List Tm) (e : Ex) : cf al e = cf (al.filter q) e + cf (al.filter fun p => !q p) e := by
  induction al with
  | nil => rfl
  | cons p al ih =>
    rw [List.filter_cons, List.filter_cons, cf_cons, ih]
    cases q p with
    | true => simp [cf_cons]; omega
    | false => simp [cf_cons]; omega
theorem sub_top (j : Nat) (d : Int) {al : List Tm} (h : Canon al) : nf (al ++ negL (topL j d al)) = dropL j d al := by
  have hV : AllV al := fun p hp => (h.2 p hp).2
  have hT : AllV (topL j d al) := fun p hp => hV p (List.mem_filter.1 hp).1
  refine (eq_nf (dropL_canon h) fun e => ?_).symm
  rw [valids_V (hV.append hT.negL), cf_append, cf_negL, cf_split (fun p => ex p.2 j == d) al e]
  have h1 : (al.filter fun p => !(ex p.2 j == d)) = dropL j d al := by
    unfold dropL
    refine List.filter_congr fun p _ => ?_
    congr 1
    rw [Bool.eq_iff_iff, beq_iff_eq, beq_iff_eq]
    omega
  rw [h1]
  show _ = cf (topL j d al) e + _ + -cf (topL j d al) e
  omega
theorem degL_le {j E : Nat} {al : List Tm} (hj : j < 4) (h : AllE al E) : degL j al ≤ (E : Int) := by
  have h1 := degL_mem (j := j) (al := al) (d0 := -1)
  have e : al.foldl (fun d p => max (max d 0) (ex p.2 j)) (-1) = degL j al := rfl
  rw [e] at h1
  rcases h1 with h1 | h1 | ⟨p, hp, h1⟩
  · omega
  · omega
  · have := h p hp j hj
    omega
theorem AllE.coef {j E : Nat} {d : Int} {al : List Tm} (hj : j < 4) (h : AllE al E) : AllE (coefL j d al) E := fun p hp i hi => by
  obtain ⟨q, hq, rfl⟩ := List.mem_map.1 hp
  have h1 := h q (List.mem_filter.1 hq).1 i hi
  show (ex (zeroE j q.2) i).toNat ≤ E
  have h2 : ex (zeroE j q.2) i = 0 ∨ ex (zeroE j q.2) i = ex q.2 i := by
    match j, hj, i, hi with
    | 0, _, 0, _ => exact .inl rfl
    | 0, _, 1, _ => exact .inr rfl
    | 0, _, 2, _ => exact .inr rfl
    | 0, _, 3, _ => exact .inr rfl
    | 1, _, 0, _ => exact .inr rfl
    | 1, _, 1, _ => exact .inl rfl
    | 1, _, 2, _ => exact .inr rfl
    | 1, _, 3, _ => exact .inr rfl
    | 2, _, 0, _ => exact .inr rfl
    | 2, _, 1, _ => exact .inr rfl
    | 2, _, 2, _ => exact .inl rfl
    | 2, _, 3, _ => exact .inr rfl
    | 3, _, 0, _ => exact .inr rfl
    | 3, _, 1, _ => exact .inr rfl
    | 3, _, 2, _ => exact .inr rfl
    | 3, _, 3, _ => exact .inl rfl
  omega
theorem AllE.shift {j E F : Nat} {k : Int} {al : List Tm} (hj : j < 4) (h : AllE al E) (hk : k ≤ (F : Int)) : AllE (shiftL j k al) (E + F) := fun p hp i hi => by
  obtain ⟨q, hq, rfl⟩ := List.mem_map.1 hp
  have h1 := h q hq i hi
  show (ex (shiftE j k q.2) i).toNat ≤ E + F
  rw [ex_shift j hj k q.2 i hi]
  split <;> omega
theorem AllE.drop {j E : Nat} {d : Int} {al : List Tm} (h : AllE al E) : AllE (dropL j d al) E := fun p hp => h p (List.mem_filter.1 hp).1
theorem l1_shiftL (j : Nat) (k : Int) (al : List Tm) : l1 (shiftL j k al) = l1 al := by
  unfold shiftL
  induction al with
  | nil => rfl
  | cons p al ih => rw [List.map_cons, l1_cons, l1_cons, ih]
end Go.Proofs.Ytnknidfpkmnncaa
