/- Words for polynomials in memory. -/
import Derived.Test.YtnknidfpkmnncaaC6
import Derived.Test.YtnknidfpkmnncaaQ
namespace Go.Proofs.Ytnknidfpkmnncaa
open Go.RowKit

/-- The coefficient of a term reads as z in canonical form. -/
def CoefC (B : Nat) (w : World) (t : TV) (z : Int) : Prop := t.neg = decide (z < 0) ∧ Dig B w t.A t.n t.c (digs z.natAbs)
/-- The coefficient of a term reads as z, in at most 2^40 digits. -/
def CoefW (B : Nat) (w : World) (t : TV) (z : Int) : Prop := Coef B w t z ∧ t.n ≤ 1099511627776
theorem CoefC.coef {B : Nat} {w : World} {t : TV} {z : Int} (h : CoefC B w t z) : Coef B w t z := by
  refine ⟨_, h.2, ?_⟩
  rw [val_digs, h.1]
  unfold iv
  by_cases hz : z < 0
  · rw [if_pos (by simpa using hz)]; omega
  · rw [if_neg (by simpa using hz)]; omega
theorem CoefC.below {B : Nat} {w w' : World} {t : TV} {z : Int} (h : CoefC B w t z) {B' : Nat} (hb : Below B' w w') (hB : w.heap.size ≤ B') : CoefC B w' t z := ⟨h.1, h.2.below hb hB⟩
theorem CoefW.below {B : Nat} {w w' : World} {t : TV} {z : Int} (h : CoefW B w t z) {B' : Nat} (hb : Below B' w w') (hB : w.heap.size ≤ B') : CoefW B w' t z := ⟨h.1.below hb hB, h.2⟩
theorem CoefC.only {B : Nat} {w w' : World} {t : TV} {z : Int} (h : CoefC B w t z) {g : Nat} {T' : TypeId} (hO : Only g w w') (hB : B ≤ g) (ht : Ty w g T') (hne : 109 ≠ T') : CoefC B w' t z := ⟨h.1, h.2.only hO hB ht hne⟩
/-- The bound of all coefficients: numbers of at most 2^40 digits. -/
@[irreducible] def big : Nat := bp 1099511627776
theorem CoefC.wide {B : Nat} {w : World} {t : TV} {z : Int} (h : CoefC B w t z) (hz : z.natAbs < big) : CoefW B w t z :=
  ⟨h.coef, by unfold big at hz; rw [← h.2.len]; exact digs_length_le hz⟩
/-- An append onto a row of terms keeps coefficients readable. -/
theorem CoefC.grown {B : Nat} {w w' : World} {t : TV} {z : Int} (h : CoefC B w t z) {base n size : Nat} {T' : TypeId} {v : Value} {xs : List Value} (hown : w.ownsRow base T' size v n xs) (hg : w.grownBy w' v.ownBlock) (hB : B ≤ base) (hne : 109 ≠ T') : CoefC B w' t z := by
  rcases hown.2 with ⟨rfl, _⟩ | ⟨g, cap, cur, rfl, hb, hh, _⟩
  · exact h.below (B' := w.heap.size) ⟨hg.os, hg.tape, hg.output, hg.size, fun k hk => hg.block k hk (by simp [Value.ownBlock])⟩ (Nat.le_refl _)
  · exact h.only (g := g) hg (by omega) ⟨cur, _, hh⟩ hne

/-- The terms L stand for the polynomial al; R: how a coefficient is read. -/
def Reps (R : TV → Int → Prop) : List TV → List Tm → Prop
  | [], [] => True
  | t :: L, p :: al => t.e = p.2 ∧ R t p.1 ∧ Reps R L al
  | _, _ => False
section
variable {R R' : TV → Int → Prop}
theorem Reps.mono {L : List TV} {al : List Tm} (h : Reps R L al) (hr : ∀ t z, t ∈ L → R t z → R' t z) : Reps R' L al := by
  induction L generalizing al with
  | nil => cases al with
    | nil => trivial
    | cons => exact h.elim
  | cons t L ih => cases al with
    | nil => exact h.elim
    | cons p al => exact ⟨h.1, hr t p.1 (by simp) h.2.1, ih h.2.2 (fun s z hs => hr s z (List.mem_cons_of_mem _ hs))⟩
theorem Reps.length {L : List TV} {al : List Tm} (h : Reps R L al) : L.length = al.length := by
  induction L generalizing al with
  | nil => cases al with
    | nil => rfl
    | cons => exact h.elim
  | cons t L ih => cases al with
    | nil => exact h.elim
    | cons p al => rw [List.length_cons, List.length_cons, ih h.2.2]
theorem Reps.append {L M : List TV} {al am : List Tm} (h : Reps R L al) (k : Reps R M am) : Reps R (L ++ M) (al ++ am) := by
  induction L generalizing al with
  | nil => cases al with
    | nil => exact k
    | cons => exact h.elim
  | cons t L ih => cases al with
    | nil => exact h.elim
    | cons p al => exact ⟨h.1, h.2.1, ih h.2.2⟩
theorem Reps.one {t : TV} {z : Int} {e : Ex} (he : t.e = e) (h : R t z) : Reps R [t] [(z, e)] := ⟨he, h, trivial⟩
theorem Reps.at_ {L : List TV} {al : List Tm} (h : Reps R L al) {i : Nat} {t : TV} (ht : L[i]? = some t) : ∃ p, al[i]? = some p ∧ t.e = p.2 ∧ R t p.1 := by
  induction L generalizing al i with
  | nil => simp at ht
  | cons s L ih => cases al with
    | nil => exact h.elim
    | cons p al =>
      cases i with
      | zero => simp at ht; subst ht; exact ⟨p, rfl, h.1, h.2.1⟩
      | succ i => simpa using ih h.2.2 (by simpa using ht)
theorem Reps.split {L M : List TV} {al : List Tm} (h : Reps R (L ++ M) al) : ∃ a b, al = a ++ b ∧ Reps R L a ∧ Reps R M b := by
  induction L generalizing al with
  | nil => exact ⟨[], al, rfl, trivial, h⟩
  | cons t L ih => cases al with
    | nil => exact h.elim
    | cons p al =>
      obtain ⟨a, b, rfl, h1, h2⟩ := ih h.2.2
      exact ⟨p :: a, b, rfl, ⟨h.1, h.2.1, h1⟩, h2⟩
theorem Reps.split' {L : List TV} {a b : List Tm} (h : Reps R L (a ++ b)) : ∃ L1 L2, L = L1 ++ L2 ∧ Reps R L1 a ∧ Reps R L2 b := by
  induction a generalizing L with
  | nil => exact ⟨[], L, rfl, trivial, h⟩
  | cons p a ih => cases L with
    | nil => exact h.elim
    | cons t L =>
      obtain ⟨L1, L2, rfl, h1, h2⟩ := ih h.2.2
      exact ⟨t :: L1, L2, rfl, ⟨h.1, h.2.1, h1⟩, h2⟩
theorem Reps.take {L : List TV} {al : List Tm} (h : Reps R L al) (k : Nat) : Reps R (L.take k) (al.take k) := by
  induction L generalizing al k with
  | nil => cases al with
    | nil => simp; trivial
    | cons => exact h.elim
  | cons t L ih => cases al with
    | nil => exact h.elim
    | cons p al => cases k with
      | zero => trivial
      | succ k => exact ⟨h.1, h.2.1, ih h.2.2 k⟩
theorem Reps.perm {L M : List TV} (hp : M.Perm L) : ∀ {al : List Tm}, Reps R L al → ∃ am, am.Perm al ∧ Reps R M am := by
  induction hp with
  | nil => intro al h; exact ⟨al, List.Perm.refl _, h⟩
  | cons t _ ih =>
    intro al h
    cases al with
    | nil => exact h.elim
    | cons p al =>
      obtain ⟨am, h1, h2⟩ := ih h.2.2
      exact ⟨p :: am, h1.cons p, h.1, h.2.1, h2⟩
  | swap s t L =>
    intro al h
    match al, h with
    | p :: q :: al, h => exact ⟨q :: p :: al, List.Perm.swap _ _ _, h.2.2.1, h.2.2.2.1, h.1, h.2.1, h.2.2.2.2⟩
    | [_], h => exact h.2.2.elim
    | [], h => exact h.elim
  | trans _ _ ih1 ih2 =>
    intro al h
    obtain ⟨a1, p1, r1⟩ := ih2 h
    obtain ⟨a2, p2, r2⟩ := ih1 r1
    exact ⟨a2, p2.trans p1, r2⟩
theorem Reps.pairwise {L : List TV} {al : List Tm} (h : Reps R L al) (hs : L.Pairwise Desc) : al.Pairwise (fun p q => 0 ≤ cmpE p.2 q.2) := by
  induction L generalizing al with
  | nil => cases al with
    | nil => exact List.Pairwise.nil
    | cons => exact h.elim
  | cons t L ih => cases al with
    | nil => exact h.elim
    | cons p al =>
      have h1 := List.pairwise_cons.1 hs
      refine List.pairwise_cons.2 ⟨fun q hq => ?_, ih h.2.2 h1.2⟩
      obtain ⟨i, hi⟩ := List.getElem?_of_mem hq
      have hil : i < L.length := by rw [h.2.2.length]; exact (List.getElem?_eq_some_iff.1 hi).1
      obtain ⟨q', h2, h3, _⟩ := h.2.2.at_ (List.getElem?_eq_getElem hil)
      rw [h2] at hi
      injection hi with hi
      have h4 := h1.1 L[i] (List.getElem_mem hil)
      unfold Desc at h4
      rw [← h.1, ← hi, ← h3]
      exact h4
theorem Reps.filter {L : List TV} {al : List Tm} {f : TV → Bool} {g : Tm → Bool} (h : Reps R L al) (hf : ∀ t p, t ∈ L → t.e = p.2 → R t p.1 → f t = g p) : Reps R (L.filter f) (al.filter g) := by
  induction L generalizing al with
  | nil => cases al with
    | nil => trivial
    | cons => exact h.elim
  | cons t L ih => cases al with
    | nil => exact h.elim
    | cons p al =>
      have h1 := hf t p (by simp) h.1 h.2.1
      have h2 := ih h.2.2 (fun s q hs => hf s q (List.mem_cons_of_mem _ hs))
      rw [List.filter_cons, List.filter_cons, h1]
      split
      · exact ⟨h.1, h.2.1, h2⟩
      · exact h2
end

theorem flat_one (L : List TV) : ∀ u ∈ flat L, u.oneCell' = true := by
  intro u hu
  unfold flat at hu
  rw [List.mem_flatMap] at hu
  obtain ⟨t, _, ht⟩ := hu
  simp only [TV.cells, List.mem_cons, List.not_mem_nil, or_false] at ht
  rcases ht with rfl | rfl | rfl | rfl | rfl | rfl <;> rfl

/-- The slice .slice A n c reads as the polynomial al; R as in Reps. -/
structure PolyR (B : Nat) (w : World) (R : TV → Int → Prop) (A : Option Addr) (n c : Nat) (L : List TV) (al : List Tm) : Prop where
  row : Row B 80 w A n c 6 (flat L)
  reps : Reps R L al
/-- .. its coefficients in canonical form. -/
def PolyC (B : Nat) (w : World) (A : Option Addr) (n c : Nat) (al : List Tm) : Prop := ∃ L, PolyR B w (CoefC B w) A n c L al
/-- .. its coefficients in any form. -/
def PolyW (B : Nat) (w : World) (A : Option Addr) (n c : Nat) (al : List Tm) : Prop := ∃ L, PolyR B w (CoefW B w) A n c L al
section
variable {B : Nat} {w w' : World} {A : Option Addr} {n c : Nat} {L : List TV} {al : List Tm}
theorem PolyR.lenL {R : TV → Int → Prop} (h : PolyR B w R A n c L al) : L.length = n := by
  have := h.row.len
  rw [flat_length] at this
  omega
theorem PolyR.len {R : TV → Int → Prop} (h : PolyR B w R A n c L al) : al.length = n := by rw [← h.reps.length, h.lenL]
theorem PolyC.len (h : PolyC B w A n c al) : al.length = n := by obtain ⟨L, h⟩ := h; exact h.len
theorem PolyW.len (h : PolyW B w A n c al) : al.length = n := by obtain ⟨L, h⟩ := h; exact h.len
theorem PolyC.cap (h : PolyC B w A n c al) : n ≤ c := by obtain ⟨L, h⟩ := h; exact h.row.cap
theorem PolyW.cap (h : PolyW B w A n c al) : n ≤ c := by obtain ⟨L, h⟩ := h; exact h.row.cap
theorem PolyC.below (h : PolyC B w A n c al) {B' : Nat} (hb : Below B' w w') (hB : w.heap.size ≤ B') : PolyC B w' A n c al := by
  obtain ⟨L, h⟩ := h
  exact ⟨L, h.row.below (by omega) hb hB, h.reps.mono fun t z _ hr => hr.below hb hB⟩
theorem PolyW.below (h : PolyW B w A n c al) {B' : Nat} (hb : Below B' w w') (hB : w.heap.size ≤ B') : PolyW B w' A n c al := by
  obtain ⟨L, h⟩ := h
  exact ⟨L, h.row.below (by omega) hb hB, h.reps.mono fun t z _ hr => hr.below hb hB⟩
theorem Reps.mem_l1 {L : List TV} {al : List Tm} (h : Reps (CoefC B w) L al) (hb : l1 al < big) : Reps (CoefW B w) L al := by
  induction L generalizing al with
  | nil => cases al with
    | nil => trivial
    | cons => exact h.elim
  | cons t L ih => cases al with
    | nil => exact h.elim
    | cons p al =>
      rw [l1_cons] at hb
      exact ⟨h.1, h.2.1.wide (by omega), ih h.2.2 (by omega)⟩
theorem PolyC.wide (h : PolyC B w A n c al) (hb : l1 al < big) : PolyW B w A n c al := by
  obtain ⟨L, h⟩ := h
  exact ⟨L, h.row, h.reps.mem_l1 hb⟩
theorem PolyC.nil : PolyC B w none 0 0 [] := ⟨[], Row.nil, trivial⟩
end

/-- What comes back reads as the polynomial al in canonical form; what existed is as it was. -/
def PolyP (B : Nat) (al : List Tm) (w : World) (e : Ending) (w' : World) : Prop :=
  ∃ A' n' c', e = .returned (.slice A' n' c') ∧ PolyC B w' A' n' c' al ∧ Below w.heap.size w w'

theorem terminfo : (Try.prog.info? 80).map (fun i => (i.zero, i.size, i.bytes)) = some (some (.agg #[.bool false, .slice none 0 0, .int .i64 0, .int .i64 0, .int .i64 0, .int .i64 0]), 6, 64) := by kernel_rfl

theorem own_below {w w' : World} {base n size : Nat} {e : TypeId} {v : Value} {xs : List Value} (h : w.ownsRow base e size v n xs) (hb : Below w.heap.size w w') : w'.ownsRow base e size v n xs :=
  h.kept (row := none) ⟨hb.os, hb.tape, hb.output, hb.size, fun i hi _ => hb.block i hi⟩ (by cases v.ownBlock <;> simp)
theorem own_base {w : World} {base : Nat} {e : TypeId} {size n : Nat} {v : Value} {xs : List Value} (h : w.ownsRow base e size v n xs) (k : Nat) (hk : v.ownBlock = some k) : base ≤ k := by
  rcases h.2 with ⟨rfl, _⟩ | ⟨g, cap, cur, rfl, hb, _⟩
  · simp [Value.ownBlock] at hk
  · have : g = k := by simpa [Value.ownBlock] using hk
    omega
theorem Terms.of_own {w : World} {base n g cap : Nat} {L : List TV} (h : w.ownsRow base 80 6 (.slice (some ⟨g, 0, none⟩) n cap) n (flat L)) : Terms w g L := by
  rcases h.2 with ⟨he, _⟩ | ⟨g', cap', cur, he, _, hh, hn, _, hsz, ht⟩
  · cases he
  · injection he with he _ _
    injection he with he
    injection he with he _ _
    subst he
    refine ⟨cur, hh, ?_, fun k u hk => ?_⟩
    · have h1 := congrArg List.length ht
      rw [List.length_take, flat_length] at h1
      simp at h1
      omega
    · rw [← ht, List.getElem?_take] at hk
      split at hk
      · simpa using hk
      · cases hk
theorem Row.of_terms {B : Nat} {w : World} {g n cap : Nat} {L : List TV} (h : Terms w g L) (hn : L.length = n) (hc : n ≤ cap) (hb : cap ≤ 9223372036854775807) : Row B 80 w (some ⟨g, 0, none⟩) n cap 6 (flat L) := by
  refine ⟨by rw [flat_length, hn], hc, hb, fun _ => ⟨_, rfl, ?_, fun k u hu => ?_⟩⟩
  · obtain ⟨cur, hh, _⟩ := h.ex_
    exact .inr ⟨cur, hh⟩
  · have ha : (⟨g, 0, none⟩ : Addr).add k = ⟨g, k, none⟩ := by unfold Addr.add; split <;> simp_all
    rw [ha]; exact h.cell hu
/-- The row's cells with the address as the walk reckons it. -/
theorem Row.flatAt {B T : Nat} {w : World} {A : Option Addr} {n c z : Nat} {cs : List Value} (h : Row B T w A n c z cs) (hn : 0 < n) (hz : 0 < z) : ∃ b off, A = some ⟨b, off, none⟩ ∧ b < w.heap.size ∧ ∀ k u, cs[k]? = some u → w.cell? ⟨b, off + k, none⟩ = some u := by
  obtain ⟨ad, rfl, _, hc⟩ := h.cell hn
  have hl : 0 < cs.length := by rw [h.len]; exact Nat.mul_pos hn hz
  have h0 := hc 0 _ (List.getElem?_eq_getElem hl)
  rw [add_zero] at h0
  have hlt := World.block_lt_of_cell? w _ h0
  obtain ⟨b, off, spot⟩ := ad
  have hs : spot = none := by
    cases spot with
    | none => rfl
    | some s =>
      exfalso
      unfold World.cell? at h0
      split at h0
      · simp at h0
      · cases h0
  subst hs
  refine ⟨b, off, rfl, hlt, fun k u hu => ?_⟩
  have h1 := hc k u hu
  have ha : (⟨b, off, none⟩ : Addr).add k = ⟨b, off + k, none⟩ := by unfold Addr.add; split <;> simp_all
  rwa [ha] at h1
theorem Row.six {B : Nat} {w : World} {A : Option Addr} {n c : Nat} {L : List TV} (h : Row B 80 w A n c 6 (flat L)) (hn : 0 < n) : ∃ b off, A = some ⟨b, off, none⟩ ∧ b < w.heap.size ∧ ∀ i t, L[i]? = some t →
    w.cell? ⟨b, off + i * 6, none⟩ = some (.bool t.neg) ∧ w.cell? ⟨b, off + i * 6 + 1, none⟩ = some (.slice t.A t.n t.c) ∧ w.cell? ⟨b, off + i * 6 + 2, none⟩ = some (.int .i64 t.e.1) ∧
    w.cell? ⟨b, off + i * 6 + 3, none⟩ = some (.int .i64 t.e.2.1) ∧ w.cell? ⟨b, off + i * 6 + 4, none⟩ = some (.int .i64 t.e.2.2.1) ∧ w.cell? ⟨b, off + i * 6 + 5, none⟩ = some (.int .i64 t.e.2.2.2) := by
  obtain ⟨b, off, hA, hb, hc⟩ := h.flatAt hn (by omega)
  refine ⟨b, off, hA, hb, fun i t ht => ?_⟩
  have e : ∀ j, off + i * 6 + j = off + (i * 6 + j) := fun j => by omega
  rw [e 1, e 2, e 3, e 4, e 5]
  exact ⟨hc _ _ (flat_at L i t ht 0 (by omega)), hc _ _ (flat_at L i t ht 1 (by omega)), hc _ _ (flat_at L i t ht 2 (by omega)), hc _ _ (flat_at L i t ht 3 (by omega)), hc _ _ (flat_at L i t ht 4 (by omega)), hc _ _ (flat_at L i t ht 5 (by omega))⟩
end Go.Proofs.Ytnknidfpkmnncaa
