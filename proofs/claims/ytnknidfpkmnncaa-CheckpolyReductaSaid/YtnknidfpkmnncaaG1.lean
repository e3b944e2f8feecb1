/- Plain laws of values of polynomials at four integers. -/
import Derived.Test.YtnknidfpkmnncaaD9
namespace Go.Proofs.Ytnknidfpkmnncaa

/-- The factors of a term, up to the variable k. -/
def tk (x : Ex) (p : Tm) : Nat → Int
  | 0 => p.1
  | k + 1 => tk x p k * ex x k ^ (ex p.2 k).toNat
/-- The value of a term. -/
def evT (x : Ex) (p : Tm) : Int := tk x p 4
/-- The value of a polynomial. -/
def ev (x : Ex) : List Tm → Int
  | [] => 0
  | p :: al => evT x p + ev x al
theorem ev_append (x : Ex) (a b : List Tm) : ev x (a ++ b) = ev x a + ev x b := by
  induction a with
  | nil => simp [ev]
  | cons p a ih => rw [List.cons_append, ev, ev, ih]; omega
theorem ev_step {x : Ex} {al : List Tm} {k : Nat} {p : Tm} (h : al[k]? = some p) : ev x (al.take (k + 1)) = ev x (al.take k) + evT x p := by
  rw [List.take_add_one, h, ev_append]
  simp [ev]
/-- The part of a term without its coefficient. -/
def mk (x : Ex) (e : Ex) : Nat → Int
  | 0 => 1
  | k + 1 => mk x e k * ex x k ^ (ex e k).toNat
theorem tk_mk (x : Ex) (p : Tm) (k : Nat) : tk x p k = p.1 * mk x p.2 k := by
  induction k with
  | zero => simp [tk, mk]
  | succ k ih => rw [tk, mk, ih, Int.mul_assoc]
theorem evT_mk (x : Ex) (p : Tm) : evT x p = p.1 * mk x p.2 4 := tk_mk x p 4
theorem mk_add (x e f : Ex) (he : ∀ j, j < 4 → 0 ≤ ex e j) (hf : ∀ j, j < 4 → 0 ≤ ex f j) : ∀ k, k ≤ 4 → mk x (addE e f) k = mk x e k * mk x f k := by
  intro k
  induction k with
  | zero => intro _; simp [mk]
  | succ k ih =>
    intro hk
    have h1 : ex (addE e f) k = ex e k + ex f k := by
      match k, hk with
      | 0, _ => rfl
      | 1, _ => rfl
      | 2, _ => rfl
      | 3, _ => rfl
    have h2 := he k (by omega)
    have h3 := hf k (by omega)
    rw [mk, mk, mk, ih (by omega), h1, show (ex e k + ex f k).toNat = (ex e k).toNat + (ex f k).toNat by omega, Int.pow_add]
    generalize mk x e k = a
    generalize mk x f k = b
    generalize ex x k ^ (ex e k).toNat = c
    generalize ex x k ^ (ex f k).toNat = d
    rw [Int.mul_assoc, Int.mul_assoc, Int.mul_left_comm b c d]
theorem evT_mul (x : Ex) (p q : Tm) (hp : validE p.2 = true) (hq : validE q.2 = true) : evT x (mulT p q) = evT x p * evT x q := by
  rw [evT_mk, evT_mk, evT_mk]
  show p.1 * q.1 * mk x (addE p.2 q.2) 4 = _
  rw [mk_add x p.2 q.2 (validE_iff.1 hp) (validE_iff.1 hq) 4 (Nat.le_refl _)]
  generalize mk x p.2 4 = a
  generalize mk x q.2 4 = b
  rw [Int.mul_assoc, Int.mul_assoc, Int.mul_left_comm q.1 a b]
theorem ev_map (x : Ex) (p : Tm) (b : List Tm) (hp : validE p.2 = true) (hb : ∀ q ∈ b, validE q.2 = true) : ev x (b.map (mulT p)) = evT x p * ev x b := by
  induction b with
  | nil => simp [ev]
  | cons q b ih =>
    rw [List.map_cons, ev, ev, ih (fun r hr => hb r (List.mem_cons_of_mem _ hr)), evT_mul x p q hp (hb q (by simp)), Int.mul_add]
theorem ev_prodL (x : Ex) (a b : List Tm) (ha : ∀ p ∈ a, validE p.2 = true) (hb : ∀ q ∈ b, validE q.2 = true) : ev x (prodL a b) = ev x a * ev x b := by
  induction a with
  | nil => simp [prodL, ev]
  | cons p a ih =>
    show ev x (b.map (mulT p) ++ prodL a b) = _
    rw [ev_append, ih (fun r hr => ha r (List.mem_cons_of_mem _ hr)), ev_map x p b (ha p (by simp)) hb, ev, Int.add_mul]
theorem ev_ins (x : Ex) (p : Tm) (l : List Tm) : ev x (ins p l) = evT x p + ev x l := by
  induction l with
  | nil =>
    unfold ins
    split
    · rename_i h; rw [evT_mk, h]; simp [ev]
    · rfl
  | cons q l ih =>
    unfold ins
    split
    · split
      · rename_i h; rw [evT_mk, h]; simp
      · rfl
    · split
      · rename_i h1 h2
        split
        · rename_i h3
          rw [ev, evT_mk, evT_mk, h2]
          have : p.1 = -q.1 := by omega
          rw [this, Int.neg_mul]; omega
        · rw [ev, ev, evT_mk, evT_mk, evT_mk, h2]
          simp only
          rw [Int.add_mul]; omega
      · rw [ev, ev, ih]; omega
theorem ev_foldr (x : Ex) (al : List Tm) : ev x (al.foldr ins []) = ev x al := by
  induction al with
  | nil => rfl
  | cons p al ih => rw [List.foldr_cons, ev_ins, ih, ev]
theorem ev_nf (x : Ex) (al : List Tm) : ev x (nf al) = ev x (valids al) := ev_foldr x _
theorem valids_all {al : List Tm} (h : ∀ p ∈ al, validE p.2 = true) : valids al = al := List.filter_eq_self.2 fun p hp => h p hp

/-- Bounds. -/
theorem natAbs_pow (a : Int) (n : Nat) : (a ^ n).natAbs = a.natAbs ^ n := by
  induction n with
  | zero => simp
  | succ n ih => rw [Int.pow_succ, Nat.pow_succ, Int.natAbs_mul, ih]
/-- All four numbers are small. -/
def XSmall (x : Ex) (M : Nat) : Prop := ∀ j, j < 4 → (ex x j).natAbs ≤ M
/-- All exponents are small. -/
def ESmall (e : Ex) (E : Nat) : Prop := ∀ j, j < 4 → (ex e j).toNat ≤ E
theorem tk_le {x : Ex} {p : Tm} {M E : Nat} (hx : XSmall x M) (he : ESmall p.2 E) (hM : 0 < M) (k n : Nat) (hk : k < 4) (hn : n ≤ E) : (tk x p k * ex x k ^ n).natAbs ≤ p.1.natAbs * M ^ (4 * E) := by
  have h1 : ∀ j, j ≤ 4 → (tk x p j).natAbs ≤ p.1.natAbs * M ^ (j * E) := by
    intro j
    induction j with
    | zero => intro _; simp [tk]
    | succ j ih =>
      intro hj
      rw [tk, Int.natAbs_mul, natAbs_pow, Nat.succ_mul, Nat.pow_add, ← Nat.mul_assoc]
      refine Nat.mul_le_mul (ih (by omega)) ?_
      exact Nat.le_trans (Nat.pow_le_pow_left (hx j (by omega)) _) (Nat.pow_le_pow_right hM (he j (by omega)))
  rw [Int.natAbs_mul, natAbs_pow]
  have h2 : (ex x k).natAbs ^ n ≤ M ^ E := Nat.le_trans (Nat.pow_le_pow_left (hx k hk) _) (Nat.pow_le_pow_right hM hn)
  have h3 := Nat.mul_le_mul (h1 k (by omega)) h2
  rw [Nat.mul_assoc, ← Nat.pow_add] at h3
  refine Nat.le_trans h3 (Nat.mul_le_mul_left _ (Nat.pow_le_pow_right hM ?_))
  have : (k + 1) * E ≤ 4 * E := Nat.mul_le_mul_right _ (by omega)
  rw [Nat.succ_mul] at this
  exact this
theorem evT_le {x : Ex} {p : Tm} {M E : Nat} (hx : XSmall x M) (he : ESmall p.2 E) (hM : 0 < M) : (evT x p).natAbs ≤ p.1.natAbs * M ^ (4 * E) := by
  have h := tk_le hx he hM 3 (ex p.2 3).toNat (by omega) (he 3 (by omega))
  exact h
theorem ev_le {x : Ex} {al : List Tm} {M E : Nat} (hx : XSmall x M) (he : ∀ p ∈ al, ESmall p.2 E) (hM : 0 < M) : (ev x al).natAbs ≤ l1 al * M ^ (4 * E) := by
  induction al with
  | nil => simp [ev]
  | cons p al ih =>
    have h1 := evT_le hx (he p (by simp)) hM
    have h2 := ih (fun q hq => he q (List.mem_cons_of_mem _ hq))
    rw [ev, l1_cons, Nat.add_mul]
    omega
theorem ev_take_le {x : Ex} {al : List Tm} {M E : Nat} (hx : XSmall x M) (he : ∀ p ∈ al, ESmall p.2 E) (hM : 0 < M) (k : Nat) : (ev x (al.take k)).natAbs ≤ l1 al * M ^ (4 * E) :=
  Nat.le_trans (ev_le hx (fun p hp => he p (List.mem_of_mem_take hp)) hM) (Nat.mul_le_mul_right _ (l1_take al k))
end Go.Proofs.Ytnknidfpkmnncaa
