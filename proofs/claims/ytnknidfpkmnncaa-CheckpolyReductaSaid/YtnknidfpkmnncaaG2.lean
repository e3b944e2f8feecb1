/- Plain laws: values of sums, differences, products of small polynomials. -/
import Derived.Test.YtnknidfpkmnncaaF2
import Derived.Test.YtnknidfpkmnncaaG1
namespace Go.Proofs.Ytnknidfpkmnncaa

theorem evT_neg (x : Ex) (p : Tm) : evT x (-p.1, p.2) = -evT x p := by
  rw [evT_mk, evT_mk, Int.neg_mul]
theorem ev_negL (x : Ex) (al : List Tm) : ev x (negL al) = -ev x al := by
  induction al with
  | nil => simp [negL, ev]
  | cons p al ih =>
    show evT x (-p.1, p.2) + ev x (negL al) = _
    rw [ih, evT_neg, ev]
    omega
/-- All exponents are at least 0. -/
def AllV (al : List Tm) : Prop := ∀ p ∈ al, validE p.2 = true
/-- All exponents are at most E. -/
def AllE (al : List Tm) (E : Nat) : Prop := ∀ p ∈ al, ESmall p.2 E
theorem AllV.append {a b : List Tm} (ha : AllV a) (hb : AllV b) : AllV (a ++ b) := fun p hp => by
  rcases List.mem_append.1 hp with h | h
  · exact ha p h
  · exact hb p h
theorem AllE.append {a b : List Tm} {E : Nat} (ha : AllE a E) (hb : AllE b E) : AllE (a ++ b) E := fun p hp => by
  rcases List.mem_append.1 hp with h | h
  · exact ha p h
  · exact hb p h
theorem AllV.negL {a : List Tm} (ha : AllV a) : AllV (negL a) := fun p hp => by
  obtain ⟨q, hq, rfl⟩ := List.mem_map.1 hp
  exact ha q hq
theorem AllE.negL {a : List Tm} {E : Nat} (ha : AllE a E) : AllE (negL a) E := fun p hp => by
  obtain ⟨q, hq, rfl⟩ := List.mem_map.1 hp
  exact ha q hq
theorem AllV.nf (a : List Tm) : AllV (nf a) := fun p hp => ((nf_canon a).2 p hp).2
theorem AllE.nf {a : List Tm} {E : Nat} (ha : AllE a E) : AllE (nf a) E := fun p hp => by
  obtain ⟨q, hq, he⟩ := mem_nf hp
  rw [he]; exact ha q hq
theorem mem_prodL {a b : List Tm} {r : Tm} (h : r ∈ prodL a b) : ∃ p ∈ a, ∃ q ∈ b, r = mulT p q := by
  obtain ⟨p, hp, h1⟩ := List.mem_flatMap.1 h
  obtain ⟨q, hq, rfl⟩ := List.mem_map.1 h1
  exact ⟨p, hp, q, hq, rfl⟩
theorem ex_addE (e f : Ex) (j : Nat) : ex (addE e f) j = ex e j + ex f j := by
  match j with
  | 0 => rfl
  | 1 => rfl
  | 2 => rfl
  | _ + 3 => rfl
theorem AllV.prodL {a b : List Tm} (ha : AllV a) (hb : AllV b) : AllV (prodL a b) := fun r hr => by
  obtain ⟨p, hp, q, hq, rfl⟩ := mem_prodL hr
  refine validE_iff.2 fun j hj => ?_
  show 0 ≤ ex (addE p.2 q.2) j
  rw [ex_addE]
  have h1 := validE_iff.1 (ha p hp) j hj
  have h2 := validE_iff.1 (hb q hq) j hj
  omega
theorem AllE.prodL {a b : List Tm} {E F : Nat} (ha : AllE a E) (hb : AllE b F) : AllE (prodL a b) (E + F) := fun r hr => by
  obtain ⟨p, hp, q, hq, rfl⟩ := mem_prodL hr
  intro j hj
  show (ex (addE p.2 q.2) j).toNat ≤ _
  rw [ex_addE]
  have h1 := ha p hp j hj
  have h2 := hb q hq j hj
  omega
theorem AllE.mono {a : List Tm} {E F : Nat} (ha : AllE a E) (h : E ≤ F) : AllE a F := fun p hp j hj => Nat.le_trans (ha p hp j hj) h
theorem AllE.ebd {a : List Tm} {E : Nat} (ha : AllE a E) (h : E ≤ 1073741824) : Ebd a := fun p hp j hj => by
  have h1 := ha p hp j hj
  omega
theorem valids_V {a : List Tm} (ha : AllV a) : valids a = a := valids_all ha
theorem ev_nfV {a : List Tm} (ha : AllV a) (x : Ex) : ev x (nf a) = ev x a := by rw [ev_nf, valids_V ha]
theorem ev_add {a b : List Tm} (ha : AllV a) (hb : AllV b) (x : Ex) : ev x (nf (a ++ b)) = ev x a + ev x b := by
  rw [ev_nfV (ha.append hb), ev_append]
theorem ev_sub {a b : List Tm} (ha : AllV a) (hb : AllV b) (x : Ex) : ev x (nf (a ++ negL b)) = ev x a - ev x b := by
  rw [ev_nfV (ha.append hb.negL), ev_append, ev_negL]
  omega
theorem ev_mul {a b : List Tm} (ha : AllV a) (hb : AllV b) (x : Ex) : ev x (nf (prodL (nf a) (nf b))) = ev x a * ev x b := by
  rw [ev_nfV ((AllV.nf a).prodL (AllV.nf b)), ev_prodL x _ _ (AllV.nf a) (AllV.nf b), ev_nfV ha, ev_nfV hb]
theorem lt_big4 {n : Nat} (h : n < 340282366920938463463374607431768211456) : n < big := by
  unfold big
  have h1 := bp_mono (show 4 ≤ 1099511627776 by omega)
  have h2 : bp 4 = 340282366920938463463374607431768211456 := by decide
  omega
theorem tmod7_small (a : Ex) : XSmall (a.1.tmod 7, a.2.1.tmod 7, a.2.2.1.tmod 7, a.2.2.2.tmod 7) 6 := by
  have key : ∀ z : Int, (z.tmod 7).natAbs ≤ 6 := fun z => by
    have h1 := Int.natAbs_tmod z 7
    have h2 : z.natAbs % (7 : Int).natAbs < 7 := Nat.mod_lt _ (by decide)
    omega
  intro j hj
  match j, hj with
  | 0, _ => exact key _
  | 1, _ => exact key _
  | 2, _ => exact key _
  | 3, _ => exact key _
/-- What a drawn polynomial gives. -/
theorem monoV {L : List Tm} (h : ∀ m ∈ L, -128 ≤ m.1 ∧ m.1 ≤ 127 ∧ ∀ j, 0 ≤ ex m.2 j ∧ ex m.2 j ≤ 255) : AllV L := fun p hp => validE_iff.2 fun j _ => ((h p hp).2.2 j).1
theorem fewE {L : List Tm} {E : Nat} (h : FewL L (E : Int)) : AllE L E := fun p hp j hj => by
  have := h p hp j hj
  omega
theorem l1_nf_append (a b : List Tm) : l1 (nf (a ++ b)) ≤ l1 a + l1 b := Nat.le_trans (l1_nf _) (by rw [l1_append]; exact Nat.le_refl _)
theorem l1_nf_sub (a b : List Tm) : l1 (nf (a ++ negL b)) ≤ l1 a + l1 b := Nat.le_trans (l1_nf _) (by rw [l1_append, l1_negL]; exact Nat.le_refl _)
theorem l1_nf_mul (a b : List Tm) : l1 (nf (prodL (nf a) (nf b))) ≤ l1 a * l1 b := Nat.le_trans (l1_nf _) (by rw [l1_prodL]; exact Nat.mul_le_mul (l1_nf a) (l1_nf b))
theorem length_nf_append (a b : List Tm) : (nf (a ++ b)).length ≤ a.length + b.length := Nat.le_trans (length_nf _) (by rw [List.length_append]; exact Nat.le_refl _)
theorem length_negL (b : List Tm) : (negL b).length = b.length := by unfold negL; rw [List.length_map]
theorem length_nf_sub (a b : List Tm) : (nf (a ++ negL b)).length ≤ a.length + b.length := Nat.le_trans (length_nf _) (by rw [List.length_append, length_negL]; exact Nat.le_refl _)
theorem length_nf_mul (a b : List Tm) : (nf (prodL (nf a) (nf b))).length ≤ a.length * b.length := Nat.le_trans (length_nf _) (by rw [length_prodL]; exact Nat.mul_le_mul (length_nf a) (length_nf b))
end Go.Proofs.Ytnknidfpkmnncaa
