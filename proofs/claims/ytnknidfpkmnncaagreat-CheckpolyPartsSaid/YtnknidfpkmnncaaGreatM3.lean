/- C7, C9, C8, D1, D2, D3, D4, D5, D6. -/
import Derived.Test.YtnknidfpkmnncaaGreatM2
import Derived.Laws.StructEq
import Derived.Deep.RegionWith
/- Words for polynomials in memory. -/
namespace Go.Proofs.YtnknidfpkmnncaaGreat
open Go.RowKit

/-- The coefficient of a term reads as z in canonical form. -/
def CoefC (B : Nat) (w : World) (t : TV) (z : Int) : Prop := t.neg = decide (z < 0) ∧ Dig B w t.A t.n t.c (digs z.natAbs)
/-- The coefficient of a term reads as z, in at most 2^40 digits. -/
def CoefW (B : Nat) (w : World) (t : TV) (z : Int) : Prop := Coef B w t z ∧ t.n ≤ 1099511627776
theorem CoefC.coef {B : Nat} {w : World} {t : TV} {z : Int} (h : CoefC B w t z) : Coef B w t z := by
  refine ⟨_, h.2, ?_⟩
  rw [val_digs, h.1]
  unfold iv
  by_cases hz : z < 0
  · rw [if_pos (by simpa using hz)]; omega
  · rw [if_neg (by simpa using hz)]; omega
theorem CoefC.below {B : Nat} {w w' : World} {t : TV} {z : Int} (h : CoefC B w t z) {B' : Nat} (hb : Below B' w w') (hB : w.heap.size ≤ B') : CoefC B w' t z := ⟨h.1, h.2.below hb hB⟩
theorem CoefW.below {B : Nat} {w w' : World} {t : TV} {z : Int} (h : CoefW B w t z) {B' : Nat} (hb : Below B' w w') (hB : w.heap.size ≤ B') : CoefW B w' t z := ⟨h.1.below hb hB, h.2⟩
theorem CoefC.only {B : Nat} {w w' : World} {t : TV} {z : Int} (h : CoefC B w t z) {g : Nat} {T' : TypeId} (hO : Only g w w') (hB : B ≤ g) (ht : Ty w g T') (hne : 83 ≠ T') : CoefC B w' t z := ⟨h.1, h.2.only hO hB ht hne⟩
/-- The bound of all coefficients: numbers of at most 2^40 digits. -/
@[irreducible] def big : Nat := bp 1099511627776
theorem CoefC.wide {B : Nat} {w : World} {t : TV} {z : Int} (h : CoefC B w t z) (hz : z.natAbs < big) : CoefW B w t z :=
  ⟨h.coef, by unfold big at hz; rw [← h.2.len]; exact digs_length_le hz⟩
/-- An append onto a row of terms keeps coefficients readable. -/
theorem CoefC.grown {B : Nat} {w w' : World} {t : TV} {z : Int} (h : CoefC B w t z) {base n size : Nat} {T' : TypeId} {v : Value} {xs : List Value} (hown : w.ownsRow base T' size v n xs) (hg : w.grownBy w' v.ownBlock) (hB : B ≤ base) (hne : 83 ≠ T') : CoefC B w' t z := by
  rcases hown.2 with ⟨rfl, _⟩ | ⟨g, cap, cur, rfl, hb, hh, _⟩
  · exact h.below (B' := w.heap.size) ⟨hg.os, hg.tape, hg.output, hg.size, fun k hk => hg.block k hk (by simp [Value.ownBlock])⟩ (Nat.le_refl _)
  · exact h.only (g := g) hg (by omega) ⟨cur, _, hh⟩ hne

/-- The terms L stand for the polynomial al; R: how a coefficient is read. -/
def Reps (R : TV → Int → Prop) : List TV → List Tm → Prop
  | [], [] => True
  | t :: L, p :: al => t.e = p.2 ∧ R t p.1 ∧ Reps R L al
  | _, _ => False
section
variable {R R' : TV → Int → Prop}
theorem Reps.mono {L : List TV} {al : List Tm} (h : Reps R L al) (hr : ∀ t z, t ∈ L → R t z → R' t z) : Reps R' L al := by
  induction L generalizing al with
  | nil => cases al with
    | nil => trivial
    | cons => exact h.elim
  | cons t L ih => cases al with
    | nil => exact h.elim
    | cons p al => exact ⟨h.1, hr t p.1 (by simp) h.2.1, ih h.2.2 (fun s z hs => hr s z (List.mem_cons_of_mem _ hs))⟩
theorem Reps.length {L : List TV} {al : List Tm} (h : Reps R L al) : L.length = al.length := by
  induction L generalizing al with
  | nil => cases al with
    | nil => rfl
    | cons => exact h.elim
  | cons t L ih => cases al with
    | nil => exact h.elim
    | cons p al => rw [List.length_cons, List.length_cons, ih h.2.2]
theorem Reps.append {L M : List TV} {al am : List Tm} (h : Reps R L al) (k : Reps R M am) : Reps R (L ++ M) (al ++ am) := by
  induction L generalizing al with
  | nil => cases al with
    | nil => exact k
    | cons => exact h.elim
  | cons t L ih => cases al with
    | nil => exact h.elim
    | cons p al => exact ⟨h.1, h.2.1, ih h.2.2⟩
theorem Reps.one {t : TV} {z : Int} {e : Ex} (he : t.e = e) (h : R t z) : Reps R [t] [(z, e)] := ⟨he, h, trivial⟩
theorem Reps.at_ {L : List TV} {al : List Tm} (h : Reps R L al) {i : Nat} {t : TV} (ht : L[i]? = some t) : ∃ p, al[i]? = some p ∧ t.e = p.2 ∧ R t p.1 := by
  induction L generalizing al i with
  | nil => simp at ht
  | cons s L ih => cases al with
    | nil => exact h.elim
    | cons p al =>
      cases i with
      | zero => simp at ht; subst ht; exact ⟨p, rfl, h.1, h.2.1⟩
      | succ i => simpa using ih h.2.2 (by simpa using ht)
theorem Reps.split {L M : List TV} {al : List Tm} (h : Reps R (L ++ M) al) : ∃ a b, al = a ++ b ∧ Reps R L a ∧ Reps R M b := by
  induction L generalizing al with
  | nil => exact ⟨[], al, rfl, trivial, h⟩
  | cons t L ih => cases al with
    | nil => exact h.elim
    | cons p al =>
      obtain ⟨a, b, rfl, h1, h2⟩ := ih h.2.2
      exact ⟨p :: a, b, rfl, ⟨h.1, h.2.1, h1⟩, h2⟩
theorem Reps.split' {L : List TV} {a b : List Tm} (h : Reps R L (a ++ b)) : ∃ L1 L2, L = L1 ++ L2 ∧ Reps R L1 a ∧ Reps R L2 b := by
  induction a generalizing L with
  | nil => exact ⟨[], L, rfl, trivial, h⟩
  | cons p a ih => cases L with
    | nil => exact h.elim
    | cons t L =>
      obtain ⟨L1, L2, rfl, h1, h2⟩ := ih h.2.2
      exact ⟨t :: L1, L2, rfl, ⟨h.1, h.2.1, h1⟩, h2⟩
theorem Reps.take {L : List TV} {al : List Tm} (h : Reps R L al) (k : Nat) : Reps R (L.take k) (al.take k) := by
  induction L generalizing al k with
  | nil => cases al with
    | nil => simp; trivial
    | cons => exact h.elim
  | cons t L ih => cases al with
    | nil => exact h.elim
    | cons p al => cases k with
      | zero => trivial
      | succ k => exact ⟨h.1, h.2.1, ih h.2.2 k⟩
theorem Reps.perm {L M : List TV} (hp : M.Perm L) : ∀ {al : List Tm}, Reps R L al → ∃ am, am.Perm al ∧ Reps R M am := by
  induction hp with
  | nil => intro al h; exact ⟨al, List.Perm.refl _, h⟩
  | cons t _ ih =>
    intro al h
    cases al with
    | nil => exact h.elim
    | cons p al =>
      obtain ⟨am, h1, h2⟩ := ih h.2.2
      exact ⟨p :: am, h1.cons p, h.1, h.2.1, h2⟩
  | swap s t L =>
    intro al h
    match al, h with
    | p :: q :: al, h => exact ⟨q :: p :: al, List.Perm.swap _ _ _, h.2.2.1, h.2.2.2.1, h.1, h.2.1, h.2.2.2.2⟩
    | [_], h => exact h.2.2.elim
    | [], h => exact h.elim
  | trans _ _ ih1 ih2 =>
    intro al h
    obtain ⟨a1, p1, r1⟩ := ih2 h
    obtain ⟨a2, p2, r2⟩ := ih1 r1
    exact ⟨a2, p2.trans p1, r2⟩
theorem Reps.pairwise {L : List TV} {al : List Tm} (h : Reps R L al) (hs : L.Pairwise Desc) : al.Pairwise (fun p q => 0 ≤ cmpE p.2 q.2) := by
  induction L generalizing al with
  | nil => cases al with
    | nil => exact List.Pairwise.nil
    | cons => exact h.elim
  | cons t L ih => cases al with
    | nil => exact h.elim
    | cons p al =>
      have h1 := List.pairwise_cons.1 hs
      refine List.pairwise_cons.2 ⟨fun q hq => ?_, ih h.2.2 h1.2⟩
      obtain ⟨i, hi⟩ := List.getElem?_of_mem hq
      have hil : i < L.length := by rw [h.2.2.length]; exact (List.getElem?_eq_some_iff.1 hi).1
      obtain ⟨q', h2, h3, _⟩ := h.2.2.at_ (List.getElem?_eq_getElem hil)
      rw [h2] at hi
      injection hi with hi
      have h4 := h1.1 L[i] (List.getElem_mem hil)
      unfold Desc at h4
      rw [← h.1, ← hi, ← h3]
      exact h4
theorem Reps.filter {L : List TV} {al : List Tm} {f : TV → Bool} {g : Tm → Bool} (h : Reps R L al) (hf : ∀ t p, t ∈ L → t.e = p.2 → R t p.1 → f t = g p) : Reps R (L.filter f) (al.filter g) := by
  induction L generalizing al with
  | nil => cases al with
    | nil => trivial
    | cons => exact h.elim
  | cons t L ih => cases al with
    | nil => exact h.elim
    | cons p al =>
      have h1 := hf t p (by simp) h.1 h.2.1
      have h2 := ih h.2.2 (fun s q hs => hf s q (List.mem_cons_of_mem _ hs))
      rw [List.filter_cons, List.filter_cons, h1]
      split
      · exact ⟨h.1, h.2.1, h2⟩
      · exact h2
end

theorem flat_one (L : List TV) : ∀ u ∈ flat L, u.oneCell' = true := by
  intro u hu
  unfold flat at hu
  rw [List.mem_flatMap] at hu
  obtain ⟨t, _, ht⟩ := hu
  simp only [TV.cells, List.mem_cons, List.not_mem_nil, or_false] at ht
  rcases ht with rfl | rfl | rfl | rfl | rfl | rfl <;> rfl

/-- The slice .slice A n c reads as the polynomial al; R as in Reps. -/
structure PolyR (B : Nat) (w : World) (R : TV → Int → Prop) (A : Option Addr) (n c : Nat) (L : List TV) (al : List Tm) : Prop where
  row : Row B 57 w A n c 6 (flat L)
  reps : Reps R L al
/-- .. its coefficients in canonical form. -/
def PolyC (B : Nat) (w : World) (A : Option Addr) (n c : Nat) (al : List Tm) : Prop := ∃ L, PolyR B w (CoefC B w) A n c L al
/-- .. its coefficients in any form. -/
def PolyW (B : Nat) (w : World) (A : Option Addr) (n c : Nat) (al : List Tm) : Prop := ∃ L, PolyR B w (CoefW B w) A n c L al
section
variable {B : Nat} {w w' : World} {A : Option Addr} {n c : Nat} {L : List TV} {al : List Tm}
theorem PolyR.lenL {R : TV → Int → Prop} (h : PolyR B w R A n c L al) : L.length = n := by
  have := h.row.len
  rw [flat_length] at this
  omega
theorem PolyR.len {R : TV → Int → Prop} (h : PolyR B w R A n c L al) : al.length = n := by rw [← h.reps.length, h.lenL]
theorem PolyC.len (h : PolyC B w A n c al) : al.length = n := by obtain ⟨L, h⟩ := h; exact h.len
theorem PolyW.len (h : PolyW B w A n c al) : al.length = n := by obtain ⟨L, h⟩ := h; exact h.len
theorem PolyC.cap (h : PolyC B w A n c al) : n ≤ c := by obtain ⟨L, h⟩ := h; exact h.row.cap
theorem PolyW.cap (h : PolyW B w A n c al) : n ≤ c := by obtain ⟨L, h⟩ := h; exact h.row.cap
theorem PolyC.below (h : PolyC B w A n c al) {B' : Nat} (hb : Below B' w w') (hB : w.heap.size ≤ B') : PolyC B w' A n c al := by
  obtain ⟨L, h⟩ := h
  exact ⟨L, h.row.below (by omega) hb hB, h.reps.mono fun t z _ hr => hr.below hb hB⟩
theorem PolyW.below (h : PolyW B w A n c al) {B' : Nat} (hb : Below B' w w') (hB : w.heap.size ≤ B') : PolyW B w' A n c al := by
  obtain ⟨L, h⟩ := h
  exact ⟨L, h.row.below (by omega) hb hB, h.reps.mono fun t z _ hr => hr.below hb hB⟩
theorem Reps.mem_l1 {L : List TV} {al : List Tm} (h : Reps (CoefC B w) L al) (hb : l1 al < big) : Reps (CoefW B w) L al := by
  induction L generalizing al with
  | nil => cases al with
    | nil => trivial
    | cons => exact h.elim
  | cons t L ih => cases al with
    | nil => exact h.elim
    | cons p al =>
      rw [l1_cons] at hb
      exact ⟨h.1, h.2.1.wide (by omega), ih h.2.2 (by omega)⟩
theorem PolyC.wide (h : PolyC B w A n c al) (hb : l1 al < big) : PolyW B w A n c al := by
  obtain ⟨L, h⟩ := h
  exact ⟨L, h.row, h.reps.mem_l1 hb⟩
theorem PolyC.nil : PolyC B w none 0 0 [] := ⟨[], Row.nil, trivial⟩
end

/-- What comes back reads as the polynomial al in canonical form; what existed is as it was. -/
def PolyP (B : Nat) (al : List Tm) (w : World) (e : Ending) (w' : World) : Prop :=
  ∃ A' n' c', e = .returned (.slice A' n' c') ∧ PolyC B w' A' n' c' al ∧ Below w.heap.size w w'

theorem terminfo : (Tryz.prog.info? 57).map (fun i => (i.zero, i.size, i.bytes)) = some (some (.agg #[.bool false, .slice none 0 0, .int .i64 0, .int .i64 0, .int .i64 0, .int .i64 0]), 6, 64) := by kernel_rfl

theorem own_below {w w' : World} {base n size : Nat} {e : TypeId} {v : Value} {xs : List Value} (h : w.ownsRow base e size v n xs) (hb : Below w.heap.size w w') : w'.ownsRow base e size v n xs :=
  h.kept (row := none) ⟨hb.os, hb.tape, hb.output, hb.size, fun i hi _ => hb.block i hi⟩ (by cases v.ownBlock <;> simp)
theorem own_base {w : World} {base : Nat} {e : TypeId} {size n : Nat} {v : Value} {xs : List Value} (h : w.ownsRow base e size v n xs) (k : Nat) (hk : v.ownBlock = some k) : base ≤ k := by
  rcases h.2 with ⟨rfl, _⟩ | ⟨g, cap, cur, rfl, hb, _⟩
  · simp [Value.ownBlock] at hk
  · have : g = k := by simpa [Value.ownBlock] using hk
    omega
theorem Terms.of_own {w : World} {base n g cap : Nat} {L : List TV} (h : w.ownsRow base 57 6 (.slice (some ⟨g, 0, none⟩) n cap) n (flat L)) : Terms w g L := by
  rcases h.2 with ⟨he, _⟩ | ⟨g', cap', cur, he, _, hh, hn, _, hsz, ht⟩
  · cases he
  · injection he with he _ _
    injection he with he
    injection he with he _ _
    subst he
    refine ⟨cur, hh, ?_, fun k u hk => ?_⟩
    · have h1 := congrArg List.length ht
      rw [List.length_take, flat_length] at h1
      simp at h1
      omega
    · rw [← ht, List.getElem?_take] at hk
      split at hk
      · simpa using hk
      · cases hk
theorem Row.of_terms {B : Nat} {w : World} {g n cap : Nat} {L : List TV} (h : Terms w g L) (hn : L.length = n) (hc : n ≤ cap) (hb : cap ≤ 9223372036854775807) : Row B 57 w (some ⟨g, 0, none⟩) n cap 6 (flat L) := by
  refine ⟨by rw [flat_length, hn], hc, hb, fun _ => ⟨_, rfl, ?_, fun k u hu => ?_⟩⟩
  · obtain ⟨cur, hh, _⟩ := h.ex_
    exact .inr ⟨cur, hh⟩
  · have ha : (⟨g, 0, none⟩ : Addr).add k = ⟨g, k, none⟩ := by unfold Addr.add; split <;> simp_all
    rw [ha]; exact h.cell hu
/-- The row's cells with the address as the walk reckons it. -/
theorem Row.flatAt {B T : Nat} {w : World} {A : Option Addr} {n c z : Nat} {cs : List Value} (h : Row B T w A n c z cs) (hn : 0 < n) (hz : 0 < z) : ∃ b off, A = some ⟨b, off, none⟩ ∧ b < w.heap.size ∧ ∀ k u, cs[k]? = some u → w.cell? ⟨b, off + k, none⟩ = some u := by
  obtain ⟨ad, rfl, _, hc⟩ := h.cell hn
  have hl : 0 < cs.length := by rw [h.len]; exact Nat.mul_pos hn hz
  have h0 := hc 0 _ (List.getElem?_eq_getElem hl)
  rw [add_zero] at h0
  have hlt := World.block_lt_of_cell? w _ h0
  obtain ⟨b, off, spot⟩ := ad
  have hs : spot = none := by
    cases spot with
    | none => rfl
    | some s =>
      exfalso
      unfold World.cell? at h0
      split at h0
      · simp at h0
      · cases h0
  subst hs
  refine ⟨b, off, rfl, hlt, fun k u hu => ?_⟩
  have h1 := hc k u hu
  have ha : (⟨b, off, none⟩ : Addr).add k = ⟨b, off + k, none⟩ := by unfold Addr.add; split <;> simp_all
  rwa [ha] at h1
theorem Row.six {B : Nat} {w : World} {A : Option Addr} {n c : Nat} {L : List TV} (h : Row B 57 w A n c 6 (flat L)) (hn : 0 < n) : ∃ b off, A = some ⟨b, off, none⟩ ∧ b < w.heap.size ∧ ∀ i t, L[i]? = some t →
    w.cell? ⟨b, off + i * 6, none⟩ = some (.bool t.neg) ∧ w.cell? ⟨b, off + i * 6 + 1, none⟩ = some (.slice t.A t.n t.c) ∧ w.cell? ⟨b, off + i * 6 + 2, none⟩ = some (.int .i64 t.e.1) ∧
    w.cell? ⟨b, off + i * 6 + 3, none⟩ = some (.int .i64 t.e.2.1) ∧ w.cell? ⟨b, off + i * 6 + 4, none⟩ = some (.int .i64 t.e.2.2.1) ∧ w.cell? ⟨b, off + i * 6 + 5, none⟩ = some (.int .i64 t.e.2.2.2) := by
  obtain ⟨b, off, hA, hb, hc⟩ := h.flatAt hn (by omega)
  refine ⟨b, off, hA, hb, fun i t ht => ?_⟩
  have e : ∀ j, off + i * 6 + j = off + (i * 6 + j) := fun j => by omega
  rw [e 1, e 2, e 3, e 4, e 5]
  exact ⟨hc _ _ (flat_at L i t ht 0 (by omega)), hc _ _ (flat_at L i t ht 1 (by omega)), hc _ _ (flat_at L i t ht 2 (by omega)), hc _ _ (flat_at L i t ht 3 (by omega)), hc _ _ (flat_at L i t ht 4 (by omega)), hc _ _ (flat_at L i t ht 5 (by omega))⟩
end Go.Proofs.YtnknidfpkmnncaaGreat
/- Two exponent vectors held against each other by '==', and by '!='. -/
namespace Go.Proofs.YtnknidfpkmnncaaGreat
open Go.RowKit

theorem eqInt (a b : Int) (w : World) (d : Nat) : (Op.equalIn (d + 1) 3 (.int .i64 a) (.int .i64 b)).run Tryz.prog w = .ok (a == b) w := run_equalIn_int w d 3 .i64 .i64 a b Tryz.underlying3
theorem sizeInt (w : World) : (sizeOf 3).run Tryz.prog w = .ok 1 w := by kernel_rfl
theorem pt0 (a b c d : Int) (w : World) : (part 3 #[Value.int IntKind.i64 a, Value.int IntKind.i64 b, Value.int IntKind.i64 c, Value.int IntKind.i64 d] 0).run Tryz.prog w = .ok (.int .i64 a) w := by kernel_rfl
theorem pt1 (a b c d : Int) (w : World) : (part 3 #[Value.int IntKind.i64 a, Value.int IntKind.i64 b, Value.int IntKind.i64 c, Value.int IntKind.i64 d] 1).run Tryz.prog w = .ok (.int .i64 b) w := by kernel_rfl
theorem pt2 (a b c d : Int) (w : World) : (part 3 #[Value.int IntKind.i64 a, Value.int IntKind.i64 b, Value.int IntKind.i64 c, Value.int IntKind.i64 d] 2).run Tryz.prog w = .ok (.int .i64 c) w := by kernel_rfl
theorem pt3 (a b c d : Int) (w : World) : (part 3 #[Value.int IntKind.i64 a, Value.int IntKind.i64 b, Value.int IntKind.i64 c, Value.int IntKind.i64 d] 3).run Tryz.prog w = .ok (.int .i64 d) w := by kernel_rfl
theorem eqInEx (a b c d a2 b2 c2 d2 : Int) (w : World) : (Op.equalIn 10000 55 (.agg #[.int .i64 a, .int .i64 b, .int .i64 c, .int .i64 d]) (.agg #[.int .i64 a2, .int .i64 b2, .int .i64 c2, .int .i64 d2])).run Tryz.prog w = .ok (a == a2 && (b == b2 && (c == c2 && d == d2))) w := by
  unfold Op.equalIn
  simp only [Sem.run_bind, run_underlying Tryz.underlying55, Result.andThen_ok, sizeInt]
  rw [Std.Legacy.Range.forIn_eq_forIn_range']
  have hr : List.range' ({ stop := 4, step_pos := by decide } : Std.Legacy.Range).start ({ stop := 4, step_pos := by decide } : Std.Legacy.Range).size ({ stop := 4, step_pos := by decide } : Std.Legacy.Range).step = [0, 1, 2, 3] := by decide
  rw [hr]
  simp only [List.forIn_cons, List.forIn_nil, Sem.run_bind, Nat.mul_one, pt0, Result.andThen_ok, eqInt]
  by_cases h0 : a = a2 <;> by_cases h1 : b = b2 <;> by_cases h2 : c = c2 <;> by_cases h3 : d = d2 <;>
    simp [Sem.run_pure, Sem.run_bind, pt1, pt2, pt3, Result.andThen_ok, eqInt, h0, h1, h2, h3]
theorem eq_ex (e f : Ex) (w : World) : (binOp .eql 55 (.agg #[.int .i64 e.1, .int .i64 e.2.1, .int .i64 e.2.2.1, .int .i64 e.2.2.2]) (.agg #[.int .i64 f.1, .int .i64 f.2.1, .int .i64 f.2.2.1, .int .i64 f.2.2.2])).run Tryz.prog w = .ok (.bool (e == f)) w := by
  obtain ⟨a, b, c, d⟩ := e
  obtain ⟨a2, b2, c2, d2⟩ := f
  rw [run_eql_struct, eqInEx]
  rfl
theorem neq_ex (e f : Ex) (w : World) : (binOp .neq 55 (.agg #[.int .i64 e.1, .int .i64 e.2.1, .int .i64 e.2.2.1, .int .i64 e.2.2.2]) (.agg #[.int .i64 f.1, .int .i64 f.2.1, .int .i64 f.2.2.1, .int .i64 f.2.2.2])).run Tryz.prog w = .ok (.bool (!(e == f))) w := by
  obtain ⟨a, b, c, d⟩ := e
  obtain ⟨a2, b2, c2, d2⟩ := f
  rw [run_neq_struct, eqInEx]
  rfl
theorem guard_ex (op : BinOp) (e f : Array Value) (x y : Operand) (w : World) : (eqGuard op 55 x y (.agg e) (.agg f)).run Tryz.prog w = .ok () w := run_eqGuard_agg _ _ _ _ _ _ _ (by kernel_rfl)
end Go.Proofs.YtnknidfpkmnncaaGreat
/- checkpoly.Normal. -/
namespace Go.Proofs.YtnknidfpkmnncaaGreat
open Go.RowKit

theorem valids_take (al : List Tm) (k : Nat) (p : Tm) (h : al[k]? = some p) : valids (al.take (k + 1)) = if validE p.2 then valids (al.take k) ++ [p] else valids (al.take k) := by
  have h1 := List.getElem?_eq_some_iff.1 h
  rw [List.take_succ_eq_append_getElem h1.1, h1.2]
  unfold valids
  rw [List.filter_append]
  by_cases hv : validE p.2 = true
  · simp [hv]
  · simp [hv]
theorem valids_le (al : List Tm) (k : Nat) : (valids (al.take k)).length ≤ k := by
  have h1 := List.length_filter_le (fun p => validE p.2) (al.take k)
  have h2 := List.length_take_le k al
  unfold valids
  exact Nat.le_trans h1 h2

/-- The state of Normal's first loop: the row v bears the first k valid terms. -/
structure N1 (B : Nat) (w : World) (al : List Tm) (k : Nat) (v : Value) (L : List TV) (wr : World) : Prop where
  own : wr.ownsRow w.heap.size 57 6 v L.length (flat L)
  nil : L = [] → v = .slice none 0 0
  reps : Reps (CoefC B wr) L (valids (al.take k))
  below : Below w.heap.size w wr
theorem N1.start (B : Nat) (w : World) (al : List Tm) : N1 B w al 0 (.slice none 0 0) [] w :=
  ⟨World.ownsRow_nil _ _ _ _, fun _ => rfl, by simp [valids, Reps], Below.refl _ _⟩
theorem N1.later {B : Nat} {w : World} {al : List Tm} {k : Nat} {v : Value} {L : List TV} {wr w1 : World} (h : N1 B w al k v L wr) (hb : Below wr.heap.size wr w1) : N1 B w al k v L w1 :=
  ⟨own_below h.own hb, h.nil, h.reps.mono fun _t _z _ hr => hr.below hb (Nat.le_refl _), h.below.trans (hb.mono h.below.size)⟩
theorem N1.drop {B : Nat} {w : World} {al : List Tm} {k : Nat} {v : Value} {L : List TV} {wr : World} (h : N1 B w al k v L wr) {p : Tm} (hp : al[k]? = some p) (hv : validE p.2 = false) : N1 B w al (k + 1) v L wr :=
  ⟨h.own, h.nil, by rw [valids_take al k p hp, hv]; exact h.reps, h.below⟩

/-- The six cells of a term's box. -/
abbrev Held6 (w' : World) (H : Nat) (t : TV) : Prop :=
  w'.cell? ⟨H, 0, none⟩ = some (.bool t.neg) ∧ w'.cell? ⟨H, 1, none⟩ = some (.slice t.A t.n t.c) ∧ w'.cell? ⟨H, 2, none⟩ = some (.int .i64 t.e.1) ∧ w'.cell? ⟨H, 3, none⟩ = some (.int .i64 t.e.2.1) ∧ w'.cell? ⟨H, 4, none⟩ = some (.int .i64 t.e.2.2.1) ∧ w'.cell? ⟨H, 5, none⟩ = some (.int .i64 t.e.2.2.2)

theorem own_lt {w : World} {base : Nat} {e : TypeId} {size n : Nat} {v : Value} {xs : List Value} (h : w.ownsRow base e size v n xs) (k : Nat) (hk : v.ownBlock = some k) : k < w.heap.size := by
  rcases h.2 with ⟨rfl, _⟩ | ⟨g, cap, cur, rfl, hb, hh, _⟩
  · simp [Value.ownBlock] at hk
  · have : g = k := by simpa [Value.ownBlock] using hk
    subst this
    exact (Array.getElem?_eq_some_iff.1 hh).1
theorem held6_below {w w' : World} {H : Nat} {t : TV} (h : Held6 w H t) (hb : Below w.heap.size w w') (hH : H < w.heap.size) : Held6 w' H t := by
  obtain ⟨hc, _⟩ := bcell hb
  unfold Held6
  rw [hc _ _ hH, hc _ _ hH, hc _ _ hH, hc _ _ hH, hc _ _ hH, hc _ _ hH]
  exact h
theorem held6_box {w : World} {H : Nat} {t : TV} (h : Held6 w H t) (hH : H < w.heap.size) (neg : Bool) (A : Option Addr) (n c : Nat) (e : Ex) :
    Held6 (w.alloc (.cells #[.bool neg, .slice A n c, .int .i64 e.1, .int .i64 e.2.1, .int .i64 e.2.2.1, .int .i64 e.2.2.2] 57)) H t := held6_below h ((Below.refl _ _).alloc (Nat.le_refl _) _) hH
theorem held6_grown {w w' : World} {H : Nat} {t : TV} {row : Option Nat} (h : Held6 w H t) (hg : w.grownBy w' row) (hr : ∀ g, row = some g → g < H) (hH : H < w.heap.size) : Held6 w' H t := by
  have hc : ∀ o, w'.cell? ⟨H, o, none⟩ = w.cell? ⟨H, o, none⟩ := fun o => hg.cell_far ⟨H, o, none⟩ hH (fun e => by have := hr H e.symm; omega)
  unfold Held6
  rw [hc, hc, hc, hc, hc, hc]
  exact h
theorem N1.box {B : Nat} {w : World} {al : List Tm} {k : Nat} {v : Value} {L : List TV} {wr : World} (h : N1 B w al k v L wr) (neg : Bool) (A : Option Addr) (n c : Nat) (e : Ex) :
    N1 B w al k v L (wr.alloc (.cells #[.bool neg, .slice A n c, .int .i64 e.1, .int .i64 e.2.1, .int .i64 e.2.2.1, .int .i64 e.2.2.2] 57)) := h.later ((Below.refl _ _).alloc (Nat.le_refl _) _)

theorem N1.push {B : Nat} {w : World} {al : List Tm} {k : Nat} {v : Value} {L : List TV} {wr w3 : World} {p : Tm} {A : Option Addr} {n c g cap : Nat} {e : Ex} (h : N1 B w al k v L wr) (hp : al[k]? = some p) (he : e = p.2) (hv : validE e = true)
    (hown : w3.ownsRow w.heap.size 57 6 (.slice (some ⟨g, 0, none⟩) (L.length + 1) cap) (L.length + 1) (flat L ++ flat [⟨decide (p.1 < 0), A, n, c, e⟩])) (hg : wr.grownBy w3 v.ownBlock)
    (hd : Dig B wr A n c (digs p.1.natAbs)) (hB : B ≤ w.heap.size) : N1 B w al (k + 1) (.slice (some ⟨g, 0, none⟩) (L.length + 1) cap) (L ++ [⟨decide (p.1 < 0), A, n, c, e⟩]) w3 := by
  have hne : 83 ≠ 57 := by decide
  refine ⟨by rw [List.length_append, flat_append]; exact hown, fun h0 => by simp at h0, ?_, h.below.grown hg h.below.size (fun k hk => own_base h.own k hk)⟩
  rw [valids_take al k p hp, if_pos (by rw [← he]; exact hv)]
  have hc : CoefC B wr ⟨decide (p.1 < 0), A, n, c, e⟩ p.1 := ⟨rfl, hd⟩
  exact (h.reps.mono fun t z _ hr => hr.grown h.own hg hB hne).append (Reps.one (z := p.1) he (hc.grown h.own hg hB hne))

theorem Coef.unique {B : Nat} {w : World} {t : TV} {z z' : Int} (h : Coef B w t z) (h' : Coef B w t z') : z = z' := by
  obtain ⟨xs, hd, rfl⟩ := h
  obtain ⟨ys, hd', rfl⟩ := h'
  have : xs = ys := dg_ext (by rw [hd.len, hd'.len]) fun k hk => by
    obtain ⟨ad, ha, hc⟩ := hd.cell k (by rw [← hd.len]; exact hk)
    obtain ⟨ad', ha', hc'⟩ := hd'.cell k (by rw [← hd.len]; exact hk)
    rw [ha] at ha'
    injection ha' with ha'
    subst ha'
    rw [hc] at hc'
    injection hc' with hc'
    injection hc' with _ hc'
    omega
  rw [this]
/-- The coefficient of a term, as the world has it. -/
noncomputable def zcOf (B : Nat) (w : World) (t : TV) : Int := Classical.epsilon fun z => Coef B w t z
theorem zcOf_spec {B : Nat} {w : World} {t : TV} {z : Int} (h : Coef B w t z) : Coef B w t (zcOf B w t) := Classical.epsilon_spec ⟨z, h⟩
theorem zcOf_eq {B : Nat} {w : World} {t : TV} {z : Int} (h : Coef B w t z) : zcOf B w t = z := (zcOf_spec h).unique h
/-- The state of Normal's second loop: the row v bears the merged terms of the first k of sl. -/
structure N2 (B : Nat) (w2 : World) (sl : List Tm) (k : Nat) (v : Value) (L : List TV) (wr : World) : Prop where
  own : wr.ownsRow w2.heap.size 57 6 v L.length (flat L)
  nil : L = [] → v = .slice none 0 0
  reps : Reps (CoefC B wr) L (merged (sl.take k))
  below : Below w2.heap.size w2 wr
theorem N2.start (B : Nat) (w2 : World) (sl : List Tm) : N2 B w2 sl 0 (.slice none 0 0) [] w2 :=
  ⟨World.ownsRow_nil _ _ _ _, fun _ => rfl, by simp [merged, Reps], Below.refl _ _⟩
theorem N2.later {B : Nat} {w : World} {sl : List Tm} {k : Nat} {v : Value} {L : List TV} {wr w1 : World} (h : N2 B w sl k v L wr) (hb : Below wr.heap.size wr w1) : N2 B w sl k v L w1 :=
  ⟨own_below h.own hb, h.nil, h.reps.mono fun _t _z _ hr => hr.below hb (Nat.le_refl _), h.below.trans (hb.mono h.below.size)⟩
theorem N2.push {B : Nat} {w2 : World} {sl : List Tm} {k n : Nat} {v : Value} {L : List TV} {wr w3 : World} {p : Tm} {t : TV} {g cap : Nat} (h : N2 B w2 sl k v L wr) (hn : L.length = n) (_hp : sl[k]? = some p) (he : t.e = p.2) (hm : merged (sl.take (k + 1)) = merged (sl.take k) ++ [p])
    (hown : w3.ownsRow w2.heap.size 57 6 (.slice (some ⟨g, 0, none⟩) (n + 1) cap) (n + 1) (flat L ++ flat [t])) (hg : wr.grownBy w3 v.ownBlock)
    (hd : CoefC B wr t p.1) (hB : B ≤ w2.heap.size) : N2 B w2 sl (k + 1) (.slice (some ⟨g, 0, none⟩) (n + 1) cap) (L ++ [t]) w3 := by
  have hne : 83 ≠ 57 := by decide
  subst hn
  refine ⟨by rw [List.length_append, flat_append]; exact hown, fun h0 => by simp at h0, ?_, h.below.grown hg h.below.size (fun k hk => own_base h.own k hk)⟩
  rw [hm]
  exact (h.reps.mono fun t z _ hr => hr.grown h.own hg hB hne).append (Reps.one (z := p.1) he (hd.grown h.own hg hB hne))
theorem N2.own' {B : Nat} {w2 : World} {sl : List Tm} {k n : Nat} {v : Value} {L : List TV} {wr : World} (h : N2 B w2 sl k v L wr) (hn : L.length = n) : wr.ownsRow w2.heap.size 57 6 v n (flat L) := by
  subst hn; exact h.own
theorem Reps.last {R : TV → Int → Prop} {O : List TV} {s : TV} {am : List Tm} (h : Reps R (O ++ [s]) am) : ∃ a z, am = a ++ [(z, s.e)] ∧ Reps R O a ∧ R s z := by
  obtain ⟨a, b, rfl, h1, h2⟩ := h.split
  match b, h2 with
  | [q], h2 => exact ⟨a, q.1, by rw [h2.1], h1, h2.2.1⟩
  | [], h2 => exact h2.elim
  | _ :: _ :: _, h2 => exact h2.2.2.elim
theorem CoefC.value {B : Nat} {w : World} {t : TV} {z : Int} (h : CoefC B w t z) : iv t.neg (val (digs z.natAbs)) = z := by
  rw [val_digs, h.1]
  unfold iv
  by_cases hz : z < 0
  · rw [if_pos (by simpa using hz)]; omega
  · rw [if_neg (by simpa using hz)]; omega
theorem flat_set2 (O : List TV) (s : TV) (o : Nat) (ho : O.length = o) (neg : Bool) (A : Option Addr) (n c : Nat) : ((flat (O ++ [s])).set (o * 6) (.bool neg)).set (o * 6 + 1) (.slice A n c) = flat (O ++ [⟨neg, A, n, c, s.e⟩]) := by
  subst ho
  rw [flat_append, flat_append, ← flat_length O, List.set_append_right _ _ (Nat.le_refl _), List.set_append_right _ _ (by omega)]
  simp [flat, TV.cells]
theorem own_set2 {w : World} {base g o cap : Nat} {O : List TV} {s : TV} (h : w.ownsRow base 57 6 (.slice (some ⟨g, 0, none⟩) (o + 1) cap) (o + 1) (flat (O ++ [s]))) (ho : O.length = o) (neg : Bool) (A : Option Addr) (n c : Nat) :
    ((w.setCell ⟨g, o * 6, none⟩ (.bool neg)).setCell ⟨g, o * 6 + 1, none⟩ (.slice A n c)).ownsRow base 57 6 (.slice (some ⟨g, 0, none⟩) (o + 1) cap) (o + 1) (flat (O ++ [⟨neg, A, n, c, s.e⟩])) := by
  refine ⟨by simp [flat_length, ho], ?_⟩
  rcases h.2 with ⟨he, _⟩ | ⟨g', cap', cur, he, hb, hh, hn, hm, hsz, ht⟩
  · cases he
  · injection he with he h2 h3
    injection he with he
    injection he with he _ _
    subst he h3
    refine .inr ⟨g, cap, (cur.setIfInBounds (o * 6) (.bool neg)).setIfInBounds (o * 6 + 1) (.slice A n c), rfl, hb, ?_, hn, hm, by simpa using hsz, ?_⟩
    · simp [World.setCell, Array.getElem?_modify, hh]
    · rw [← flat_set2 O s o ho, ← ht]
      simp [List.take_set]
theorem N2.sum {B : Nat} {w2 : World} {sl : List Tm} {k o : Nat} {O : List TV} {s : TV} {wr : World} {g cap : Nat} (h : N2 B w2 sl k (.slice (some ⟨g, 0, none⟩) (o + 1) cap) (O ++ [s]) wr) (ho : O.length = o) {a : List Tm} {z : Int} (hm : merged (sl.take (k + 1)) = a ++ [(z, s.e)])
    (hO : Reps (CoefC B wr) O a) {A : Option Addr} {n c : Nat} (hd : Dig B wr A n c (digs z.natAbs)) (hB : B ≤ w2.heap.size) :
    N2 B w2 sl (k + 1) (.slice (some ⟨g, 0, none⟩) (o + 1) cap) (O ++ [⟨decide (z < 0), A, n, c, s.e⟩]) ((wr.setCell ⟨g, o * 6, none⟩ (.bool (decide (z < 0)))).setCell ⟨g, o * 6 + 1, none⟩ (.slice A n c)) := by
  have hl : (O ++ [s]).length = o + 1 := by simp [ho]
  have hown := h.own' hl
  have hg : w2.heap.size ≤ g := own_base hown g rfl
  have hT := (Terms.of_own hown).ty
  have hne : 83 ≠ 57 := by decide
  have keepD : ∀ {A' : Option Addr} {n' c' : Nat} {xs : List Nat}, Dig B wr A' n' c' xs → Dig B ((wr.setCell ⟨g, o * 6, none⟩ (.bool (decide (z < 0)))).setCell ⟨g, o * 6 + 1, none⟩ (.slice A n c)) A' n' c' xs := fun hx =>
    (hx.setCell (p := ⟨g, o * 6, none⟩) (by show B ≤ g; omega) hT hne _).setCell (p := ⟨g, o * 6 + 1, none⟩) (by show B ≤ g; omega) (hT.setCell _ _) hne _
  refine ⟨?_, fun h0 => by simp at h0, ?_, (h.below.setCell hg _).setCell hg _⟩
  · have h1 := own_set2 hown ho (decide (z < 0)) A n c
    have h2 : (O ++ [(⟨decide (z < 0), A, n, c, s.e⟩ : TV)]).length = o + 1 := by simp [ho]
    rw [h2]
    exact h1
  · rw [hm]
    exact (hO.mono fun t z' _ hr => ⟨hr.1, keepD hr.2⟩).append (Reps.one (z := z) rfl ⟨rfl, keepD hd⟩)
theorem merge_other {R : TV → Int → Prop} {O : List TV} {s : TV} {am : List Tm} (h : Reps R (O ++ [s]) am) {p : Tm} (hp : s.e ≠ p.2) : mstep am p = am ++ [p] := by
  obtain ⟨a, z, rfl, _, _⟩ := h.last
  exact mstep_other a _ p hp
theorem merged_take (sl : List Tm) (k : Nat) (p : Tm) (h : sl[k]? = some p) : merged (sl.take (k + 1)) = mstep (merged (sl.take k)) p := by
  have h1 := List.getElem?_eq_some_iff.1 h
  rw [List.take_succ_eq_append_getElem h1.1, h1.2, merged_snoc]

/-- What comes back reads as the polynomial al, in a new block; what existed is as it was. -/
def PolyF (B : Nat) (al : List Tm) (w : World) (e : Ending) (w' : World) : Prop :=
  ∃ A' n' c', e = .returned (.slice A' n' c') ∧ PolyC B w' A' n' c' al ∧ Below w.heap.size w w' ∧ ∀ ad, A' = some ad → w.heap.size ≤ ad.block

set_option maxRecDepth 100000 in
set_option maxHeartbeats 4000000 in
theorem normalp_new (B : Nat) (A : Option Addr) (n c : Nat) (al : List Tm) (w : World) (hB : B ≤ w.heap.size) (h : PolyW B w A n c al) (hn : n < sortLim) (hl : l1 al < big) :
    Calls Tryz.prog 8 #[.slice A n c] w (PolyF B (nf al) w) := by
  obtain ⟨i0, hi0, hz0, hz1, hz2⟩ := info_parts terminfo
  obtain ⟨L, hP⟩ := h
  have hcap := hP.row.cap
  have hbd := hP.row.bd
  have hnl : n ≤ 1073741824 := by unfold sortLim at hn; omega
  have HL := Lib.hid hl
  clear hl
  go_enter Tryz.func8, Tryz.ntmps8
  go_wp2
  go_loopw [3, 12] (fun v i wr => ∃ (k : Nat) (L1 : List TV), k ≤ n ∧ i = .int .i64 k ∧ N1 B w al k v L1 wr) (fun _ i _ => n - (intOf i).toNat)
  case atStart => exact ⟨0, [], Nat.zero_le _, rfl, N1.start B w al⟩
  case round =>
    obtain ⟨k, L1, hk, rfl, hN⟩ := hrel
    by_cases hlt : k < n
    · obtain ⟨b, off, rfl, hbl, hcells⟩ := hP.row.six (by omega)
      obtain ⟨t, ht⟩ : ∃ t, L[k]? = some t := ⟨_, List.getElem?_eq_getElem (by rw [hP.lenL]; exact hlt)⟩
      obtain ⟨p, hp, hte, hco⟩ := hP.reps.at_ ht
      obtain ⟨c0, c1, c2, c3, c4, c5⟩ := hcells k t ht
      have hbb := hN.below
      have hgw := hbb.size
      have hgl := fun g hg => own_lt hN.own g hg
      replace c0 := (hbb.cell (by exact hbl)).trans c0
      replace c1 := (hbb.cell (by exact hbl)).trans c1
      replace c2 := (hbb.cell (by exact hbl)).trans c2
      replace c3 := (hbb.cell (by exact hbl)).trans c3
      replace c4 := (hbb.cell (by exact hbl)).trans c4
      replace c5 := (hbb.cell (by exact hbl)).trans c5
      have hco1 := hco.below hbb (Nat.le_refl _)
      have HPk := Lib.hid hp
      have HTE := Lib.hid hte
      have i1 : (0 : Int) ≤ (k : Int) := by omega
      have i2 : (k : Int) < (n : Int) := by omega
      have hbox := (Terms.box wr t)
      have hbxb : Below wr.heap.size wr (wr.alloc (.cells #[.bool t.neg, .slice t.A t.n t.c, .int .i64 t.e.1, .int .i64 t.e.2.1, .int .i64 t.e.2.2.1, .int .i64 t.e.2.2.2] 57)) := (Below.refl _ _).alloc (Nat.le_refl _) _
      clear hcells ht hp hte hco hbb
      go_wp2_with fail
      refine (valid_any t.e _).mono ?_
      rintro e' w1 ⟨rfl, hb1⟩
      have hb2 := hbxb.trans (hb1.mono (by simp))
      have hN1 := hN.later hb2
      have hco2 := hco1.below hb2 (Nat.le_refl _)
      have hbx1 := (hbox.below hb1).six (i := 0) (t := t) rfl
      have hs1 : wr.heap.size < w1.heap.size := by have := hb1.size; simp at this; omega
      clear hb1 hbxb hbox hN c0 c1 c2 c3 c4 c5 hco1
      by_cases hv : validE t.e = true
      · have hx0 : Held6 w1 wr.heap.size t := by simpa only [Nat.zero_mul, Nat.zero_add] using hbx1
        have hx1 : Held6 w1.drew wr.heap.size t := hx0
        have hN2 := hN1.later ((Below.refl _ _).drew)
        obtain ⟨⟨xs, hdx, hzx⟩, htn⟩ := hco2
        have hdx2 := hdx.drew
        have HZ := Lib.hid hzx
        have hown0 : ∀ g, u3.ownBlock = some g → g < wr.heap.size := hgl
        have hBw : B ≤ w1.drew.heap.size := by show B ≤ w1.heap.size; have := hN1.below.size; omega
        have hL1 : L1.length ≤ k := by have h1 := hN1.reps.length; have h2 := valids_le al k; omega
        have hws : w.heap.size ≤ wr.heap.size := hgw
        clear hzx hdx hN1
        go_wp2_with fail
        go_region_held3 (fun w' => Held6 w' wr.heap.size t) (first | exact hx1 | exact hx2 | exact hx2a | exact hx3 | go_keep)
          (first
            | (go_at_call 27; ((with_reducible refine (inormal_any B t.neg t.A t.n t.c xs _ hBw hdx2 htn).mono ?_); rw [HZ.out]; rintro e2 w2 ⟨A2, n2, c2, rfl, h2, hbw2⟩; have hN3 := hN2.later hbw2; have hx2 := held6_below hx1 hbw2 hs1; have hs2 : wr.heap.size < w2.heap.size := Nat.lt_of_lt_of_le hs1 hbw2.size; have hx2a := held6_box hx2 hs2 (decide (p.1 < 0)) A2 n2 c2 t.e; have hN4 := hN3.box (decide (p.1 < 0)) A2 n2 c2 t.e))
            | (refine step_append_lies _ (by rfl) _ _ _ (by rfl) w.heap.size 57 i0 _ 6 64 Tryz.underlying27 hi0 hz0 hz1 hz2 rfl (by omega) u3 L1.length (flat L1) (by rfl) hN4.own ⟨w2.heap.size, 0, none⟩ 1 1 (flat [⟨decide (p.1 < 0), A2, n2, c2, t.e⟩]) (by rfl) (by rfl) (World.news_of_block (cs := #[.bool (decide (p.1 < 0)), .slice A2 n2 c2, .int .i64 t.e.1, .int .i64 t.e.2.1, .int .i64 t.e.2.2.1, .int .i64 t.e.2.2.2]) (t := 57) (fr := (0, 0)) (heap_alloc_new w2 _)) (flat_one _) (by omega) (by simp only [maxLen]; omega) (by omega) (by simp; omega) (w2.heap.size + 1) (by simp) ?_; intro gg cap w3 hown3 hgrow hat hlt3; have hx3 := held6_grown hx2a hgrow hown0 (by simp; omega)))
        have hN5 := hN4.push HPk.out HTE.out hv hown3 hgrow (h2.below (((Below.refl _ _).alloc (Nat.le_refl _) _)) (Nat.le_refl _)) hB
        clear hx0 hx1 hx2 hx2a hx3 hN2 hN3 hN4 hown3 hgrow h2 hdx2 hbx1 hbw2 hat
        go_wp2
        go_roundw
        case rel => exact ⟨k + 1, _, by omega, by go_num, hN5⟩
        case measure => simp [intOf]; omega
      · have hv' : validE t.e = false := by simpa using hv
        have hN3 := hN1.drop HPk.out (by rw [← HTE.out]; exact hv')
        clear hv hN1 hbx1 hco2
        go_wp2
        go_roundw
        case rel => exact ⟨k + 1, L1, by omega, by go_num, hN3⟩
        case measure => simp [intOf]; omega
    · have hkn : k = n := by omega
      subst hkn
      have hval : valids (al.take k) = valids al := by rw [List.take_of_length_le (by rw [hP.len]; exact Nat.le_refl _)]
      rcases Nat.eq_zero_or_pos L1.length with h0 | h0
      · have hL1 : L1 = [] := List.eq_nil_of_length_eq_zero h0
        subst hL1
        have hv0 := hN.nil rfl
        subst hv0
        have hnf : nf al = [] := by
          have h2 := hN.reps.length
          rw [hval] at h2
          unfold nf
          rw [List.eq_nil_of_length_eq_zero h2.symm]
          rfl
        have HNF := Lib.hid hnf
        have HB := Lib.hid hN.below
        clear hN hnf hval hP
        go_wp2_with fail
        refine (sort_nil _).mono ?_
        rintro e' w1 ⟨rfl, rfl⟩
        go_wp2
        go_loop [6, 33] (fun v i => v = .slice none 0 0 ∧ i = .int .i64 0) (fun _ _ => 0)
        case atStart => exact ⟨rfl, rfl⟩
        case round =>
          obtain ⟨rfl, rfl⟩ := hrel
          go_wp2_with fail
          refine (delete_nil _).mono ?_
          rintro e' w1 ⟨rfl, rfl⟩
          go_wp2
          go_ret
          exact ⟨none, 0, 0, rfl, by rw [HNF.out]; exact PolyC.nil, HB.out, fun ad h => by cases h⟩
      · obtain ⟨g, cap, rfl, hgB, hgl⟩ := hN.own.form h0
        have hT := Terms.of_own hN.own
        have hcp := (Row.of_own (B := B) hN.own).cap
        have hcb := (Row.of_own (B := B) hN.own).bd
        have hm : L1.length ≤ k := by have h1 := hN.reps.length; have h2 := valids_le al k; omega
        have hBg : B ≤ g := by omega
        have hRep := hN.reps
        rw [hval] at hRep
        have hB1 := hN.below
        have hTy := hT.ty
        clear hval hN
        go_wp2_with fail
        refine (sort_any g cap L1.length L1 _ hT rfl hcp hcb (by omega) (by omega)).mono ?_
        rintro e' w2 ⟨rfl, M, hM, hsM, hT2, hO2⟩
        simp only [List.nil_append, List.append_nil] at hT2
        have hml : M.length = L1.length := hM.length_eq
        obtain ⟨sl, hsl, hRs⟩ := (hRep.perm hM)
        have hRs2 := hRs.mono fun t z _ hr => hr.only hO2 hBg hTy (by decide)
        have hfin := normal_eq hsl (hRs2.pairwise hsM)
        have hB2 : Below w.heap.size w w2 := hB1.grown hO2 hB1.size (fun k hk => by injection hk with hk; omega)
        have hg2 := hT2.lt
        have hws2 := hB2.size
        have hsln : sl.length = L1.length := by rw [← hRs2.length, hml]
        have hll : l1 sl < big := by rw [l1_perm hsl]; exact Nat.lt_of_le_of_lt (l1_filter _ _) HL.out
        have hsv : ∀ q ∈ sl, validE q.2 = true := fun q hq => valids_valid al q (hsl.mem_iff.1 hq)
        have HF := Lib.hid hfin
        have HML := Lib.hid hml
        have HSL := Lib.hid hsln
        have HLL := Lib.hid hll
        have HPW := Lib.hid (hRs2.pairwise hsM)
        have HSV := Lib.hid hsv
        generalize L1.length = m at *
        clear hRep hRs hM hsM hsl hfin hml hsln hll hT hO2 hB1 hsv
        go_wp2
        go_loopw [6, 33] (fun v i wr => ∃ (k : Nat) (Lo : List TV), k ≤ m ∧ i = .int .i64 k ∧ N2 B w2 sl k v Lo wr) (fun _ i _ => m - (intOf i).toNat)
        case atStart => exact ⟨0, [], Nat.zero_le _, rfl, N2.start B w2 sl⟩
        case round =>
          obtain ⟨j, Lo, hj, rfl, hN⟩ := hrel
          by_cases hlt : j < m
          · obtain ⟨t, ht⟩ : ∃ t, M[j]? = some t := ⟨_, List.getElem?_eq_getElem (by rw [HML.out]; exact hlt)⟩
            obtain ⟨p, hp, hte, hco⟩ := hRs2.at_ ht
            have hT3 := hT2.below hN.below
            obtain ⟨c0, c1, c2, c3, c4, c5⟩ := hT3.six ht
            have hco1 := hco.below hN.below (Nat.le_refl _)
            have HPk := Lib.hid hp
            have HTE := Lib.hid hte
            have i1 : (0 : Int) ≤ (j : Int) := by omega
            have i2 : (j : Int) < (m : Int) := by omega
            have hbox := (Terms.box wr t)
            have hbxb : Below wr.heap.size wr (wr.alloc (.cells #[.bool t.neg, .slice t.A t.n t.c, .int .i64 t.e.1, .int .i64 t.e.2.1, .int .i64 t.e.2.2.1, .int .i64 t.e.2.2.2] 57)) := (Below.refl _ _).alloc (Nat.le_refl _) _
            have hN2 := hN.later hbxb
            have hco2 := hco1.below hbxb (Nat.le_refl _)
            clear ht hp hte hco
            rcases List.eq_nil_or_concat Lo with rfl | ⟨O, s, rfl⟩
            · have hv0 := hN.nil rfl
              subst hv0
              have HMS := Lib.hid (show merged (sl.take (j + 1)) = merged (sl.take j) ++ [p] by
                have h1 := hN2.reps.length
                rw [merged_take sl j p HPk.out, List.eq_nil_of_length_eq_zero h1.symm]; rfl)
              go_upto_region 14 with (fail)
              go_quiet (fail)
              obtain ⟨W, hW⟩ : ∃ W, W = (wr.alloc (.cells #[.bool t.neg, .slice t.A t.n t.c, .int .i64 t.e.1, .int .i64 t.e.2.1, .int .i64 t.e.2.2.1, .int .i64 t.e.2.2.2] 57)).drewN nq := ⟨_, rfl⟩
              rw [← hW]
              have hdr : Below (wr.alloc (.cells #[.bool t.neg, .slice t.A t.n t.c, .int .i64 t.e.1, .int .i64 t.e.2.1, .int .i64 t.e.2.2.1, .int .i64 t.e.2.2.2] 57)).heap.size (wr.alloc (.cells #[.bool t.neg, .slice t.A t.n t.c, .int .i64 t.e.1, .int .i64 t.e.2.1, .int .i64 t.e.2.2.1, .int .i64 t.e.2.2.2] 57)) W := by rw [hW]; exact ((Drawn.refl _).drewN nq).below _
              clear hW
              have hN3 := hN2.later hdr
              have hco3 := hco2.below hdr (Nat.le_refl _)
              obtain ⟨b0, b1, b2, b3, b4, b5⟩ := box_six t hdr
              have hwW : w2.heap.size ≤ W.heap.size := hN3.below.size
              have hN5 := hN3.later ((Below.refl _ _).alloc (Nat.le_refl _) (.cells #[.bool t.neg, .slice t.A t.n t.c, .int .i64 t.e.1, .int .i64 t.e.2.1, .int .i64 t.e.2.2.1, .int .i64 t.e.2.2.2] 57))
              clear hN hN2 hdr hbxb hbox hco2 hco1 c0 c1 c2 c3 c4 c5 hT3
              go_wp2_with (at_builtin; refine wpList_append_lies _ rfl _ _ _ rfl w2.heap.size 57 i0 _ 6 64 Tryz.underlying27 hi0 hz0 hz1 hz2 rfl (by omega) (.slice none 0 0) 0 (flat []) rfl hN5.own ⟨W.heap.size, 0, none⟩ 1 1 (flat [t]) rfl rfl (World.news_of_block (cs := #[.bool t.neg, .slice t.A t.n t.c, .int .i64 t.e.1, .int .i64 t.e.2.1, .int .i64 t.e.2.2.1, .int .i64 t.e.2.2.2]) (t := 57) (fr := (0, 0)) (heap_alloc_new W _)) (flat_one _) (by omega) (by simp only [maxLen]; omega) (by omega) (by simp; omega) (W.heap.size + 1) (by simp) ?_; intro gg cp w3 hown3 hgrow hat hlt3)
              have hN6 := hN5.push rfl HPk.out HTE.out HMS.out hown3 hgrow (hco3.below ((Below.refl _ _).alloc (Nat.le_refl _) _) (Nat.le_refl _)) (by omega)
              clear hN5 hN3 hown3 hgrow hco3 hat
              go_wp2
              go_roundw
              case rel => exact ⟨j + 1, _, by omega, by go_num, hN6⟩
              case measure => simp [intOf]; omega
            · rw [List.concat_eq_append] at *
              have hpos : 0 < (O ++ [s]).length := by simp
              obtain ⟨g2, cap2, rfl, hgB2, hgl2⟩ := hN.own.form hpos
              have hTo := Terms.of_own hN2.own
              have hcp2 := (Row.of_own (B := B) hN.own).cap
              obtain ⟨o, ho⟩ : ∃ o, O.length = o := ⟨_, rfl⟩
              have hlo : (O ++ [s]).length = o + 1 := by simp [ho]
              have hs6 := hTo.six (at_len O s [] o ho)
              obtain ⟨d0, d1, d2, d3, d4, d5⟩ := hs6
              have hom : o + 1 ≤ j := by
                have h1 := hN2.reps.length
                have h2 := (merged_facts (sl.take j) (HPW.out.sublist (List.take_sublist j sl)) (fun q hq => HSV.out q (List.mem_of_mem_take hq))).2.2.2.1
                have h3 := List.length_take_le j sl
                omega
              rw [hlo]
              rw [hlo] at hcp2 hN2
              have HLO := Lib.hid hlo
              have HO := Lib.hid ho
              obtain ⟨e0, e1, e2, e3, e4, e5⟩ := box_six (w := wr) t (Below.refl _ _)
              have r0 : (0 : Int) ≤ (o : Int) := by omega
              have r1 : (o : Int) < (o : Int) + 1 := by omega
              have r2 : IntKind.i64.wrap (o : Int) = (o : Int) := IntWalk.i64_in _ (by omega)
              have r3 : IntKind.i64.wrap ((o : Int) + 1) = (o : Int) + 1 := IntWalk.i64_in _ (by omega)
              have hg0 : decide ((0 : Int) < (o : Int) + 1) = true := by rw [decide_eq_true_eq]; omega
              have heq := fun W => eq_ex s.e t.e W
              have hgd := fun (x y : Operand) (W : World) => guard_ex .eql #[.int .i64 s.e.1, .int .i64 s.e.2.1, .int .i64 s.e.2.2.1, .int .i64 s.e.2.2.2] #[.int .i64 t.e.1, .int .i64 t.e.2.1, .int .i64 t.e.2.2.1, .int .i64 t.e.2.2.2] x y W
              clear hlo ho hpos
              by_cases hee : s.e = t.e
              · have hee' : (s.e == t.e) = true := by rw [beq_iff_eq]; exact hee
                obtain ⟨a, z, ham, hRO, hRz⟩ := hN2.reps.last
                have hzl : z.natAbs < big := by
                  have h1 := (merged_facts (sl.take j) (HPW.out.sublist (List.take_sublist j sl)) (fun q hq => HSV.out q (List.mem_of_mem_take hq))).2.2.1
                  have h2 := l1_take sl j
                  rw [ham, l1_append, l1_cons] at h1
                  have := HLL.out
                  simp only at h1
                  omega
                have hpl : p.1.natAbs < big := Nat.lt_of_le_of_lt (l1_mem (List.mem_of_getElem? HPk.out)) HLL.out
                have HMS := Lib.hid (show merged (sl.take (j + 1)) = a ++ [(z + p.1, s.e)] by
                  rw [merged_take sl j p HPk.out, ham]
                  exact mstep_same a _ p (by rw [← HTE.out]; exact hee))
                have hws := (hRz.wide hzl).2
                have hwt := (hco2.wide hpl).2
                clear hee hzl hpl ham
                go_upto_region 14 with (fail)
                go_quiet (fail)
                obtain ⟨W, hW⟩ : ∃ W, W = (wr.alloc (.cells #[.bool t.neg, .slice t.A t.n t.c, .int .i64 t.e.1, .int .i64 t.e.2.1, .int .i64 t.e.2.2.1, .int .i64 t.e.2.2.2] 57)).drewN nq := ⟨_, rfl⟩
                rw [← hW]
                have hdr : Below (wr.alloc (.cells #[.bool t.neg, .slice t.A t.n t.c, .int .i64 t.e.1, .int .i64 t.e.2.1, .int .i64 t.e.2.2.1, .int .i64 t.e.2.2.2] 57)).heap.size (wr.alloc (.cells #[.bool t.neg, .slice t.A t.n t.c, .int .i64 t.e.1, .int .i64 t.e.2.1, .int .i64 t.e.2.2.1, .int .i64 t.e.2.2.2] 57)) W := by rw [hW]; exact ((Drawn.refl _).drewN nq).below _
                clear hW
                have hN3 := (hN2.later hdr).later ((Below.refl _ _).drew)
                have hRO3 := (hRO.mono fun t z _ hr => hr.below hdr (Nat.le_refl _)).mono fun t z _ hr => hr.below ((Below.refl _ _).drew) (Nat.le_refl _)
                have hRz3 := (hRz.below hdr (Nat.le_refl _)).below ((Below.refl _ _).drew) (Nat.le_refl _)
                have hco3 := (hco2.below hdr (Nat.le_refl _)).below ((Below.refl _ _).drew) (Nat.le_refl _)
                clear e0 e1 e2 e3 e4 e5 d0 d1 d2 d3 d4 d5
                obtain ⟨b0, b1, b2, b3, b4, b5⟩ := box_six t hdr
                have hwW : w2.heap.size ≤ W.heap.size := hN3.below.size
                have hTW := Terms.of_own (hN3.own' HLO.out)
                clear hN hN2 hdr hbxb hbox hco2 hco1 c0 c1 c2 c3 c4 c5 hT3 hTo hRO hRz heq hgd
                obtain ⟨d0, d1, d2, d3, d4, d5⟩ := hTW.six (at_len O s [] o HO.out)
                have HSUM := Lib.hid (show iv s.neg (val (digs z.natAbs)) + iv t.neg (val (digs p.1.natAbs)) = z + p.1 by rw [hRz3.value, hco3.value])
                have hBw : B ≤ W.drew.heap.size := by show B ≤ W.heap.size; omega
                have hfz := hTW.frozen
                have hds := hRz3.2
                have hdt := hco3.2
                go_wp2
                go_region_with (go_at_call 31; (with_reducible refine (iadd_any B s.neg t.neg s.A t.A s.n s.c t.n t.c (digs z.natAbs) (digs p.1.natAbs) _ hBw hds hdt hws hwt).mono ?_); rw [HSUM.out]; rintro e3 w3 ⟨A3, n3, c3, rfl, h3, hb3⟩; have hT3 := hTW.below hb3; obtain ⟨k0, k1, k2, k3, k4, k5⟩ := hT3.six (at_len O s [] o HO.out); have hfz3 := hT3.frozen)
                all_goals
                  have hN4 := hN3.later hb3
                  have hRO4 := hRO3.mono fun t z _ hr => hr.below hb3 (Nat.le_refl _)
                  have hN6 := hN4.sum HO.out HMS.out hRO4 h3 (by omega)
                  clear hN3 hN4 hRO3 hRO4 hRz3 hco3 hds hdt hTW hT3 h3 hb3 k0 k1 k2 k3 k4 k5 d0 d1 d2 d3 d4 d5 b0 b1 b2 b3 b4 b5 hfz hfz3
                  go_wp2
                  go_roundw
                  case rel => exact ⟨j + 1, _, by omega, by go_num, hN6⟩
                  case measure => simp [intOf]; omega
              · have hee' : (s.e == t.e) = false := by rw [beq_eq_false_iff_ne]; exact hee
                have HMS := Lib.hid (show merged (sl.take (j + 1)) = merged (sl.take j) ++ [p] by
                  rw [merged_take sl j p HPk.out]
                  exact merge_other hN2.reps (by rw [← HTE.out]; exact hee))
                clear hee
                go_upto_region 14 with (fail)
                go_quiet (fail)
                obtain ⟨W, hW⟩ : ∃ W, W = (wr.alloc (.cells #[.bool t.neg, .slice t.A t.n t.c, .int .i64 t.e.1, .int .i64 t.e.2.1, .int .i64 t.e.2.2.1, .int .i64 t.e.2.2.2] 57)).drewN nq := ⟨_, rfl⟩
                rw [← hW]
                have hdr : Below (wr.alloc (.cells #[.bool t.neg, .slice t.A t.n t.c, .int .i64 t.e.1, .int .i64 t.e.2.1, .int .i64 t.e.2.2.1, .int .i64 t.e.2.2.2] 57)).heap.size (wr.alloc (.cells #[.bool t.neg, .slice t.A t.n t.c, .int .i64 t.e.1, .int .i64 t.e.2.1, .int .i64 t.e.2.2.1, .int .i64 t.e.2.2.2] 57)) W := by rw [hW]; exact ((Drawn.refl _).drewN nq).below _
                clear hW
                have hN3 := hN2.later hdr
                have hco3 := hco2.below hdr (Nat.le_refl _)
                clear e0 e1 e2 e3 e4 e5 d0 d1 d2 d3 d4 d5
                obtain ⟨b0, b1, b2, b3, b4, b5⟩ := box_six t hdr
                have hwW : w2.heap.size ≤ W.heap.size := hN3.below.size
                have hN5 := hN3.later ((Below.refl _ _).alloc (Nat.le_refl _) (.cells #[.bool t.neg, .slice t.A t.n t.c, .int .i64 t.e.1, .int .i64 t.e.2.1, .int .i64 t.e.2.2.1, .int .i64 t.e.2.2.2] 57))
                clear hN hN2 hdr hbxb hbox hco2 hco1 c0 c1 c2 c3 c4 c5 hT3 hTo
                go_wp2_with (at_builtin; refine wpList_append_lies _ rfl _ _ _ rfl w2.heap.size 57 i0 _ 6 64 Tryz.underlying27 hi0 hz0 hz1 hz2 rfl (by omega) (.slice (some ⟨g2, 0, none⟩) (o + 1) cap2) (o + 1) (flat (O ++ [s])) rfl (hN5.own' HLO.out) ⟨W.heap.size, 0, none⟩ 1 1 (flat [t]) rfl rfl (World.news_of_block (cs := #[.bool t.neg, .slice t.A t.n t.c, .int .i64 t.e.1, .int .i64 t.e.2.1, .int .i64 t.e.2.2.1, .int .i64 t.e.2.2.2]) (t := 57) (fr := (0, 0)) (heap_alloc_new W _)) (flat_one _) (by omega) (by simp only [maxLen]; omega) (by omega) (by simp; omega) (W.heap.size + 1) (by simp) ?_; intro gg cp w3 hown3 hgrow hat hlt3)
                have hN6 := hN5.push HLO.out HPk.out HTE.out HMS.out hown3 hgrow (hco3.below ((Below.refl _ _).alloc (Nat.le_refl _) _) (Nat.le_refl _)) (by omega)
                clear hN5 hN3 hown3 hgrow hco3 hat
                go_wp2
                go_roundw
                case rel => exact ⟨j + 1, _, by omega, by go_num, hN6⟩
                case measure => simp [intOf]; omega
          · have hjm : j = m := by omega
            subst hjm
            have hmt : sl.take j = sl := List.take_of_length_le (by rw [HSL.out]; exact Nat.le_refl _)
            have hRep := hN.reps
            rw [hmt] at hRep
            have hBw := hB2.trans (hN.below.mono hws2)
            rcases Nat.eq_zero_or_pos Lo.length with hz | hz
            · have hLo : Lo = [] := List.eq_nil_of_length_eq_zero hz
              subst hLo
              have hv0 := hN.nil rfl
              subst hv0
              have hnf : nf al = [] := by
                rw [← HF.out, List.eq_nil_of_length_eq_zero hRep.length.symm]; rfl
              have HNF := Lib.hid hnf
              have HBW := Lib.hid hBw
              clear hN hRep hnf hBw hmt
              go_wp2_with fail
              refine (delete_nil _).mono ?_
              rintro e' w4 ⟨rfl, rfl⟩
              go_wp2
              go_ret
              exact ⟨none, 0, 0, rfl, by rw [HNF.out]; exact PolyC.nil, HBW.out, fun ad h => by cases h⟩
            · obtain ⟨g2, cap2, rfl, hgB2, hgl2⟩ := hN.own.form hz
              have hTo := Terms.of_own hN.own
              have hcp2 := (Row.of_own (B := B) hN.own).cap
              have hcb2 := (Row.of_own (B := B) hN.own).bd
              have hlo : Lo.length ≤ 1099511627776 := by
                have h1 := hRep.length
                have h2 := (merged_facts sl HPW.out HSV.out).2.2.2.1
                have h3 := HSL.out
                omega
              have hzc : ∀ t ∈ Lo, Coef B wr t (zcOf B wr t) := fun t ht => by
                obtain ⟨i, hi⟩ := List.getElem?_of_mem ht
                obtain ⟨p, _, _, hc⟩ := hRep.at_ hi
                exact zcOf_spec hc.coef
              have hBg2 : B ≤ g2 := by omega
              have hD := delete_any B g2 cap2 Lo.length (zcOf B wr) Lo wr hBg2 hTo rfl hcp2 hcb2 hlo hzc
              have HD := Lib.hid hD
              have HRep := Lib.hid hRep
              have HBW := Lib.hid hBw
              have hTy2 := hTo.ty
              have HN := Lib.hid hN.below
              clear hN hRep hBw hmt hD hzc
              go_wp2_with fail
              refine HD.out.mono ?_
              rintro e' w4 ⟨rfl, hT4, hO4⟩
              go_wp2
              go_ret
              refine ⟨_, _, _, rfl, ⟨keep (zcOf B wr) Lo, Row.of_terms hT4 rfl ?_ hcb2, ?_⟩, ?_, fun ad hA => by cases hA; show w.heap.size ≤ g2; omega⟩
              · exact Nat.le_trans (List.length_filter_le _ _) hcp2
              · rw [← HF.out]
                refine ((HRep.out.filter (f := fun t => !(zcOf B wr t == 0)) (g := fun p => !(p.1 == 0)) fun t p _ _ hr => ?_).mono fun t z _ hr => hr.only hO4 hBg2 hTy2 (by decide))
                rw [zcOf_eq hr.coef]
              · exact HBW.out.grown hO4 HBW.out.size (fun k hk => by injection hk with hk; omega)
theorem normalp_any (B : Nat) (A : Option Addr) (n c : Nat) (al : List Tm) (w : World) (hB : B ≤ w.heap.size) (h : PolyW B w A n c al) (hn : n < sortLim) (hl : l1 al < big) :
    Calls Tryz.prog 8 #[.slice A n c] w (PolyP B (nf al) w) :=
  (normalp_new B A n c al w hB h hn hl).mono fun _ _ hp => by
    obtain ⟨A', n', c', he, h1, h2, _⟩ := hp
    exact ⟨A', n', c', he, h1, h2⟩
end Go.Proofs.YtnknidfpkmnncaaGreat
/- checkpoly.Compare. -/
namespace Go.Proofs.YtnknidfpkmnncaaGreat
open Go.RowKit

/-- The order of polynomials: term by term. -/
def cmpL : List Tm → List Tm → Int
  | [], [] => 0
  | [], _ :: _ => -1
  | _ :: _, [] => 1
  | p :: a, q :: b => if cmpE p.2 q.2 ≠ 0 then cmpE p.2 q.2 else if cmpI p.1 q.1 ≠ 0 then cmpI p.1 q.1 else cmpL a b
theorem cmpI_zero {a b : Int} : cmpI a b = 0 ↔ a = b := by
  unfold cmpI
  constructor
  · intro h
    split at h
    · omega
    · split at h
      · assumption
      · omega
  · rintro rfl
    rw [if_neg (by omega), if_pos rfl]
theorem cmpL_same (p : Tm) (a b : List Tm) : cmpL (p :: a) (p :: b) = cmpL a b := by
  simp [cmpL, cmpE_zero, cmpI_zero]
theorem cmpL_prefix (u a b : List Tm) : cmpL (u ++ a) (u ++ b) = cmpL a b := by
  induction u with
  | nil => rfl
  | cons p u ih => rw [List.cons_append, List.cons_append, cmpL_same, ih]
theorem cmpL_drop {a b : List Tm} {k : Nat} (h : a.take k = b.take k) : cmpL a b = cmpL (a.drop k) (b.drop k) := by
  have h1 := cmpL_prefix (a.take k) (a.drop k) (b.drop k)
  rw [List.take_append_drop] at h1
  rw [h, List.take_append_drop] at h1
  exact h1
theorem cmpL_at {a b : List Tm} {k : Nat} {p q : Tm} (h : a.take k = b.take k) (hp : a[k]? = some p) (hq : b[k]? = some q) :
    cmpL a b = if cmpE p.2 q.2 ≠ 0 then cmpE p.2 q.2 else if cmpI p.1 q.1 ≠ 0 then cmpI p.1 q.1 else cmpL (a.drop (k + 1)) (b.drop (k + 1)) := by
  obtain ⟨h1, h2⟩ := List.getElem?_eq_some_iff.1 hp
  obtain ⟨h3, h4⟩ := List.getElem?_eq_some_iff.1 hq
  rw [cmpL_drop h, List.drop_eq_getElem_cons h1, List.drop_eq_getElem_cons h3, h2, h4]
  rfl
theorem take_step {a b : List Tm} {k : Nat} {p q : Tm} (h : a.take k = b.take k) (hp : a[k]? = some p) (hq : b[k]? = some q) (he : cmpE p.2 q.2 = 0) (hc : cmpI p.1 q.1 = 0) : a.take (k + 1) = b.take (k + 1) := by
  obtain ⟨h1, h2⟩ := List.getElem?_eq_some_iff.1 hp
  obtain ⟨h3, h4⟩ := List.getElem?_eq_some_iff.1 hq
  rw [List.take_succ_eq_append_getElem h1, List.take_succ_eq_append_getElem h3, h2, h4, h, Prod.ext (cmpI_zero.1 hc) (cmpE_zero.1 he)]
theorem cmpL_end {a b : List Tm} {k : Nat} (h : a.take k = b.take k) (hk : a.length ≤ k ∨ b.length ≤ k) : cmpL a b = if a.length < b.length then -1 else if b.length < a.length then 1 else 0 := by
  rw [cmpL_drop h]
  rcases hk with hk | hk
  · rw [List.drop_of_length_le hk]
    have hl := congrArg List.length h
    rw [List.length_take, List.length_take] at hl
    cases hb : b.drop k with
    | nil =>
      have := congrArg List.length hb
      rw [List.length_drop, List.length_nil] at this
      rw [if_neg (by omega), if_neg (by omega)]
      rfl
    | cons q r =>
      have := congrArg List.length hb
      rw [List.length_drop, List.length_cons] at this
      rw [if_pos (by omega)]
      rfl
  · rw [List.drop_of_length_le hk]
    have hl := congrArg List.length h
    rw [List.length_take, List.length_take] at hl
    cases hb : a.drop k with
    | nil =>
      have := congrArg List.length hb
      rw [List.length_drop, List.length_nil] at this
      rw [if_neg (by omega), if_neg (by omega)]
      rfl
    | cons q r =>
      have := congrArg List.length hb
      rw [List.length_drop, List.length_cons] at this
      rw [if_neg (by omega), if_pos (by omega)]
      rfl

/-- Four cells of exponents. -/
abbrev Held4 (w' : World) (b off : Nat) (e : Ex) : Prop :=
  w'.cell? ⟨b, off + 2, none⟩ = some (.int .i64 e.1) ∧ w'.cell? ⟨b, off + 3, none⟩ = some (.int .i64 e.2.1) ∧ w'.cell? ⟨b, off + 4, none⟩ = some (.int .i64 e.2.2.1) ∧ w'.cell? ⟨b, off + 5, none⟩ = some (.int .i64 e.2.2.2)
theorem held4_below {w w' : World} {b off : Nat} {e : Ex} (h : Held4 w b off e) (hb : Below w.heap.size w w') (hlt : b < w.heap.size) : Held4 w' b off e := by
  obtain ⟨hc, _⟩ := bcell hb
  unfold Held4
  rw [hc _ _ hlt, hc _ _ hlt, hc _ _ hlt, hc _ _ hlt]
  exact h
/-- Two cells of a coefficient. -/
abbrev Held2 (w' : World) (b off : Nat) (t : TV) : Prop :=
  w'.cell? ⟨b, off, none⟩ = some (.bool t.neg) ∧ w'.cell? ⟨b, off + 1, none⟩ = some (.slice t.A t.n t.c)
theorem held2_below {w w' : World} {b off : Nat} {t : TV} (h : Held2 w b off t) (hb : Below w.heap.size w w') (hlt : b < w.heap.size) : Held2 w' b off t := by
  obtain ⟨hc, _⟩ := bcell hb
  unfold Held2
  rw [hc _ _ hlt, hc _ _ hlt]
  exact h
theorem CoefC.eq {B : Nat} {w : World} {t : TV} {z : Int} (h : CoefC B w t z) : iv t.neg (val (digs z.natAbs)) = z := by
  rw [val_digs, h.1]
  unfold iv
  by_cases hz : z < 0
  · simp [hz]; omega
  · simp [hz]; omega
/-- A polynomial's term k: its cells and its coefficient, as long as only new blocks come. -/
theorem PolyC.term {B : Nat} {w : World} {A : Option Addr} {n c : Nat} {al : List Tm} (h : PolyC B w A n c al) (hn : 0 < n) : ∃ b off, A = some ⟨b, off, none⟩ ∧ b < w.heap.size ∧
    ∀ k, k < n → ∃ t p, al[k]? = some p ∧ t.e = p.2 ∧ CoefC B w t p.1 ∧ Held2 w b (off + k * 6) t ∧ Held4 w b (off + k * 6) t.e := by
  obtain ⟨L, h⟩ := h
  obtain ⟨b, off, hA, hb, hc⟩ := h.row.six hn
  refine ⟨b, off, hA, hb, fun k hk => ?_⟩
  obtain ⟨t, ht⟩ : ∃ t, L[k]? = some t := ⟨_, List.getElem?_eq_getElem (by rw [h.lenL]; exact hk)⟩
  obtain ⟨p, h1, h2, h3⟩ := h.reps.at_ ht
  obtain ⟨c0, c1, c2, c3, c4, c5⟩ := hc k t ht
  exact ⟨t, p, h1, h2, h3, ⟨c0, c1⟩, ⟨c2, c3, c4, c5⟩⟩

set_option maxRecDepth 100000 in
set_option maxHeartbeats 4000000 in
theorem compare_any (B : Nat) (A A2 : Option Addr) (n c n2 c2 : Nat) (al bl : List Tm) (w : World) (hB : B ≤ w.heap.size) (h : PolyW B w A n c al) (h2 : PolyW B w A2 n2 c2 bl) (hn : n < sortLim) (hn2 : n2 < sortLim) (hl : l1 al < big) (hl2 : l1 bl < big) :
    Calls Tryz.prog 44 #[.slice A n c, .slice A2 n2 c2] w (ValP (.int .i64 (cmpL (nf al) (nf bl))) w) := by
  have HL2 := Lib.hid hl2
  have hnm : n ≤ 1073741824 := by unfold sortLim at hn; omega
  have hnm2 : n2 ≤ 1073741824 := by unfold sortLim at hn2; omega
  go_enter Tryz.func44, Tryz.ntmps44
  go_wp2_with fail
  refine (normalp_any B A n c al _ hB h hn hl).mono ?_
  rintro e w1 ⟨A', n', c', rfl, h1, hb1⟩
  go_wp2_with fail
  refine (normalp_any B A2 n2 c2 bl _ (by have := hb1.size; omega) (h2.below hb1 (Nat.le_refl _)) hn2 HL2.out).mono ?_
  rintro e w2 ⟨A2', n2', c2', rfl, h22, hb2⟩
  have h12 := h1.below hb2 (Nat.le_refl _)
  have hbw := hb1.trans (hb2.mono hb1.size)
  have hl1 : n' ≤ n := by have h3 := h12.len; have h4 := length_nf al; have h5 := h.len; omega
  have hl22 : n2' ≤ n2 := by have h3 := h22.len; have h4 := length_nf bl; have h5 := h2.len; omega
  have hc1 := h12.cap
  have hc2 := h22.cap
  generalize nf al = a at *
  generalize nf bl = b at *
  clear h h2 h1 hb1 hb2 HL2 hl hl2
  have HA := Lib.hid h12.len
  have HB := Lib.hid h22.len
  rcases Nat.lt_or_ge n2' n' with hlt | hge
  · go_wp2
    go_loopw [19] (fun i wr => ∃ k : Nat, k ≤ n2' ∧ i = .int .i64 k ∧ Below w2.heap.size w2 wr ∧ Hid (a.take k = b.take k)) (fun i _ => n2' - (intOf i).toNat)
    case atStart => exact ⟨0, Nat.zero_le _, rfl, Below.refl _ _, Lib.hid (by simp)⟩
    case round =>
      obtain ⟨k, hk, rfl, hb, HV⟩ := hrel
      by_cases hkm : k < n2'
      · have i0 : (0 : Int) ≤ (k : Int) := by omega
        have i1 : (k : Int) < (n' : Int) := by omega
        have i2 : (k : Int) < (n2' : Int) := by omega
        obtain ⟨b1, off1, rfl, hs1, HT1⟩ := h12.term (by omega)
        obtain ⟨b2, off2, rfl, hs2, HT2⟩ := h22.term (by omega)
        obtain ⟨t, p, hp, hte, hcf, hh2, hh4⟩ := HT1 k (by omega)
        obtain ⟨s, q, hq, hse, hcf2, hg2, hg4⟩ := HT2 k (by omega)
        have h4 : Held4 wr b1 (off1 + k * 6) t.e ∧ Held4 wr b2 (off2 + k * 6) s.e := ⟨held4_below hh4 hb hs1, held4_below hg4 hb hs2⟩
        have h2' : Held2 wr b1 (off1 + k * 6) t ∧ Held2 wr b2 (off2 + k * 6) s := ⟨held2_below hh2 hb hs1, held2_below hg2 hb hs2⟩
        have HTE := Lib.hid hte
        have HSE := Lib.hid hse
        clear hte hse
        have HE := Lib.hid (cmpL_at HV.out hp hq)
        have HS := Lib.hid (fun he hc => take_step HV.out hp hq he hc)
        have HC1 := Lib.hid hcf
        have HC2 := Lib.hid hcf2
        clear HT1 HT2 hcf hcf2 hh2 hh4 hg2 hg4 hp hq
        have H2 := Lib.hid h2'
        clear h2'
        obtain ⟨z, hz⟩ : ∃ z, cmpE t.e s.e = z := ⟨_, rfl⟩
        have HZ := Lib.hid hz
        clear hz
        have HBF := Lib.hid (show ∀ w, Calls Tryz.prog 30 #[.agg #[.int .i64 t.e.1, .int .i64 t.e.2.1, .int .i64 t.e.2.2.1, .int .i64 t.e.2.2.2], .agg #[.int .i64 s.e.1, .int .i64 s.e.2.1, .int .i64 s.e.2.2.1, .int .i64 s.e.2.2.2]] w (ValP (.int .i64 z) w) from fun w => by have h9 := before_any t.e s.e w; rw [HZ.out] at h9; exact h9)
        have hS0 : Held4 wr b1 (off1 + k * 6) t.e ∧ Held4 wr b2 (off2 + k * 6) s.e := h4
        clear h4
        obtain ⟨y, hy⟩ : ∃ y, cmpI p.1 q.1 = y := ⟨_, rfl⟩
        have HY := Lib.hid hy
        clear hy
        go_wp2
        go_region_held3 (fun w' => Held4 w' b1 (off1 + k * 6) t.e ∧ Held4 w' b2 (off2 + k * 6) s.e) (first | exact hS0 | exact hS1 | go_keep)
          (first
            | (go_at_call 30; ((with_reducible refine (HBF.out _).mono ?_); rintro e w1 ⟨rfl, hbw1⟩; have hS1 := And.intro (held4_below (w := wr.drew) hS0.1 hbw1 (Nat.lt_of_lt_of_le hs1 hb.size)) (held4_below (w := wr.drew) hS0.2 hbw1 (Nat.lt_of_lt_of_le hs2 hb.size)))))
        have hb1 := hb.drew.trans (hbw1.mono hb.size)
        have hS2 := And.intro (held2_below (w := wr.drew) H2.out.1 hbw1 (Nat.lt_of_lt_of_le hs1 hb.size)) (held2_below (w := wr.drew) H2.out.2 hbw1 (Nat.lt_of_lt_of_le hs2 hb.size))
        clear hS0 hS1
        rcases Decidable.em (z = 0) with hz0 | hz0
        · subst hz0
          go_wp2
          have hdx := (HC1.out.2.below hb1 (Nat.le_refl _)).drew
          have hdy := (HC2.out.2.below hb1 (Nat.le_refl _)).drew
          have HN1 := Lib.hid (show cmpI (iv t.neg (val (digs p.1.natAbs))) (iv s.neg (val (digs q.1.natAbs))) = y from by rw [CoefC.eq HC1.out, CoefC.eq HC2.out]; exact HY.out)
          go_region_held3 (fun w' => Held2 w' b1 (off1 + k * 6) t ∧ Held2 w' b2 (off2 + k * 6) s) (first | exact hS2 | exact hS3 | go_keep)
            (first
              | (go_at_call 51; ((with_reducible refine (icmp_any B t.neg s.neg t.A s.A t.n t.c s.n s.c _ _ _ hdx hdy).mono ?_); rw [HN1.out]; rintro e w3 ⟨rfl, hbw3⟩; have hS3 := And.intro (held2_below (w := w1.drew) hS2.1 hbw3 (Nat.lt_of_lt_of_le hs1 hb1.size)) (held2_below (w := w1.drew) hS2.2 hbw3 (Nat.lt_of_lt_of_le hs2 hb1.size)))))
          have hb3 := hb1.drew.trans (hbw3.mono hb1.size)
          clear hS2 hS3 hdx hdy
          rcases Decidable.em (y = 0) with hy0 | hy0
          · subst hy0
            go_wp2
            go_roundw
            case rel => exact ⟨k + 1, by omega, by go_num, hb3, Lib.hid (HS.out (by rw [← HTE.out, ← HSE.out]; exact HZ.out) HY.out)⟩
            case measure => simp [intOf]; omega
          · go_wp2
            go_ret
            refine ⟨?_, hbw.trans (hb3.mono hbw.size)⟩
            rw [HE.out, ← HTE.out, ← HSE.out, HZ.out, HY.out, if_neg (by simp), if_pos hy0] <;> rfl
        · go_wp2
          go_ret
          refine ⟨?_, hbw.trans (hb1.mono hbw.size)⟩
          rw [HE.out, ← HTE.out, ← HSE.out, HZ.out, if_pos hz0] <;> rfl
      · have HF := Lib.hid (cmpL_end HV.out (by rw [HA.out, HB.out]; omega))
        clear HV
        rcases Nat.lt_trichotomy n' n2' with h3 | h3 | h3
        · go_wp2
          go_ret
          refine ⟨?_, hbw.trans (hb.mono hbw.size)⟩
          rw [HF.out, HA.out, HB.out, if_pos h3] <;> rfl
        · subst h3
          go_wp2
          go_ret
          refine ⟨?_, hbw.trans (hb.mono hbw.size)⟩
          rw [HF.out, HA.out, HB.out, if_neg (by omega), if_neg (by omega)] <;> rfl
        · go_wp2
          go_ret
          refine ⟨?_, hbw.trans (hb.mono hbw.size)⟩
          rw [HF.out, HA.out, HB.out, if_neg (by omega), if_pos h3] <;> rfl
  · go_wp2
    go_loopw [19] (fun i wr => ∃ k : Nat, k ≤ n' ∧ i = .int .i64 k ∧ Below w2.heap.size w2 wr ∧ Hid (a.take k = b.take k)) (fun i _ => n' - (intOf i).toNat)
    case atStart => exact ⟨0, Nat.zero_le _, rfl, Below.refl _ _, Lib.hid (by simp)⟩
    case round =>
      obtain ⟨k, hk, rfl, hb, HV⟩ := hrel
      by_cases hkm : k < n'
      · have i0 : (0 : Int) ≤ (k : Int) := by omega
        have i1 : (k : Int) < (n' : Int) := by omega
        have i2 : (k : Int) < (n2' : Int) := by omega
        obtain ⟨b1, off1, rfl, hs1, HT1⟩ := h12.term (by omega)
        obtain ⟨b2, off2, rfl, hs2, HT2⟩ := h22.term (by omega)
        obtain ⟨t, p, hp, hte, hcf, hh2, hh4⟩ := HT1 k (by omega)
        obtain ⟨s, q, hq, hse, hcf2, hg2, hg4⟩ := HT2 k (by omega)
        have h4 : Held4 wr b1 (off1 + k * 6) t.e ∧ Held4 wr b2 (off2 + k * 6) s.e := ⟨held4_below hh4 hb hs1, held4_below hg4 hb hs2⟩
        have h2' : Held2 wr b1 (off1 + k * 6) t ∧ Held2 wr b2 (off2 + k * 6) s := ⟨held2_below hh2 hb hs1, held2_below hg2 hb hs2⟩
        have HTE := Lib.hid hte
        have HSE := Lib.hid hse
        clear hte hse
        have HE := Lib.hid (cmpL_at HV.out hp hq)
        have HS := Lib.hid (fun he hc => take_step HV.out hp hq he hc)
        have HC1 := Lib.hid hcf
        have HC2 := Lib.hid hcf2
        clear HT1 HT2 hcf hcf2 hh2 hh4 hg2 hg4 hp hq
        have H2 := Lib.hid h2'
        clear h2'
        obtain ⟨z, hz⟩ : ∃ z, cmpE t.e s.e = z := ⟨_, rfl⟩
        have HZ := Lib.hid hz
        clear hz
        have HBF := Lib.hid (show ∀ w, Calls Tryz.prog 30 #[.agg #[.int .i64 t.e.1, .int .i64 t.e.2.1, .int .i64 t.e.2.2.1, .int .i64 t.e.2.2.2], .agg #[.int .i64 s.e.1, .int .i64 s.e.2.1, .int .i64 s.e.2.2.1, .int .i64 s.e.2.2.2]] w (ValP (.int .i64 z) w) from fun w => by have h9 := before_any t.e s.e w; rw [HZ.out] at h9; exact h9)
        have hS0 : Held4 wr b1 (off1 + k * 6) t.e ∧ Held4 wr b2 (off2 + k * 6) s.e := h4
        clear h4
        obtain ⟨y, hy⟩ : ∃ y, cmpI p.1 q.1 = y := ⟨_, rfl⟩
        have HY := Lib.hid hy
        clear hy
        go_wp2
        go_region_held3 (fun w' => Held4 w' b1 (off1 + k * 6) t.e ∧ Held4 w' b2 (off2 + k * 6) s.e) (first | exact hS0 | exact hS1 | go_keep)
          (first
            | (go_at_call 30; ((with_reducible refine (HBF.out _).mono ?_); rintro e w1 ⟨rfl, hbw1⟩; have hS1 := And.intro (held4_below (w := wr.drew) hS0.1 hbw1 (Nat.lt_of_lt_of_le hs1 hb.size)) (held4_below (w := wr.drew) hS0.2 hbw1 (Nat.lt_of_lt_of_le hs2 hb.size)))))
        have hb1 := hb.drew.trans (hbw1.mono hb.size)
        have hS2 := And.intro (held2_below (w := wr.drew) H2.out.1 hbw1 (Nat.lt_of_lt_of_le hs1 hb.size)) (held2_below (w := wr.drew) H2.out.2 hbw1 (Nat.lt_of_lt_of_le hs2 hb.size))
        clear hS0 hS1
        rcases Decidable.em (z = 0) with hz0 | hz0
        · subst hz0
          go_wp2
          have hdx := (HC1.out.2.below hb1 (Nat.le_refl _)).drew
          have hdy := (HC2.out.2.below hb1 (Nat.le_refl _)).drew
          have HN1 := Lib.hid (show cmpI (iv t.neg (val (digs p.1.natAbs))) (iv s.neg (val (digs q.1.natAbs))) = y from by rw [CoefC.eq HC1.out, CoefC.eq HC2.out]; exact HY.out)
          go_region_held3 (fun w' => Held2 w' b1 (off1 + k * 6) t ∧ Held2 w' b2 (off2 + k * 6) s) (first | exact hS2 | exact hS3 | go_keep)
            (first
              | (go_at_call 51; ((with_reducible refine (icmp_any B t.neg s.neg t.A s.A t.n t.c s.n s.c _ _ _ hdx hdy).mono ?_); rw [HN1.out]; rintro e w3 ⟨rfl, hbw3⟩; have hS3 := And.intro (held2_below (w := w1.drew) hS2.1 hbw3 (Nat.lt_of_lt_of_le hs1 hb1.size)) (held2_below (w := w1.drew) hS2.2 hbw3 (Nat.lt_of_lt_of_le hs2 hb1.size)))))
          have hb3 := hb1.drew.trans (hbw3.mono hb1.size)
          clear hS2 hS3 hdx hdy
          rcases Decidable.em (y = 0) with hy0 | hy0
          · subst hy0
            go_wp2
            go_roundw
            case rel => exact ⟨k + 1, by omega, by go_num, hb3, Lib.hid (HS.out (by rw [← HTE.out, ← HSE.out]; exact HZ.out) HY.out)⟩
            case measure => simp [intOf]; omega
          · go_wp2
            go_ret
            refine ⟨?_, hbw.trans (hb3.mono hbw.size)⟩
            rw [HE.out, ← HTE.out, ← HSE.out, HZ.out, HY.out, if_neg (by simp), if_pos hy0] <;> rfl
        · go_wp2
          go_ret
          refine ⟨?_, hbw.trans (hb1.mono hbw.size)⟩
          rw [HE.out, ← HTE.out, ← HSE.out, HZ.out, if_pos hz0] <;> rfl
      · have HF := Lib.hid (cmpL_end HV.out (by rw [HA.out, HB.out]; omega))
        clear HV
        rcases Nat.lt_trichotomy n' n2' with h3 | h3 | h3
        · go_wp2
          go_ret
          refine ⟨?_, hbw.trans (hb.mono hbw.size)⟩
          rw [HF.out, HA.out, HB.out, if_pos h3] <;> rfl
        · subst h3
          go_wp2
          go_ret
          refine ⟨?_, hbw.trans (hb.mono hbw.size)⟩
          rw [HF.out, HA.out, HB.out, if_neg (by omega), if_neg (by omega)] <;> rfl
        · exact absurd h3 (by omega)
end Go.Proofs.YtnknidfpkmnncaaGreat
/- The law's order of exponents; few terms. -/
namespace Go.Proofs.YtnknidfpkmnncaaGreat
open Go.RowKit

set_option maxRecDepth 100000 in
set_option maxHeartbeats 1000000 in
theorem greater_any (e f : Ex) (w : World) : Calls Tryz.prog 49 #[.agg #[.int .i64 e.1, .int .i64 e.2.1, .int .i64 e.2.2.1, .int .i64 e.2.2.2], .agg #[.int .i64 f.1, .int .i64 f.2.1, .int .i64 f.2.2.1, .int .i64 f.2.2.2]] w (ValP (.bool (decide (0 < cmpE e f))) w) := by
  obtain ⟨a, b, c, d⟩ := e
  obtain ⟨a2, b2, c2, d2⟩ := f
  have hbw := below_box2 w (.cells #[.int .i64 a, .int .i64 b, .int .i64 c, .int .i64 d] 55) (.cells #[.int .i64 a2, .int .i64 b2, .int .i64 c2, .int .i64 d2] 55)
  have hc1 := ex_cell ((w.alloc (.cells #[.int .i64 a, .int .i64 b, .int .i64 c, .int .i64 d] 55)).alloc (.cells #[.int .i64 a2, .int .i64 b2, .int .i64 c2, .int .i64 d2] 55)) w.heap.size a b c d (by rw [Below.heap_alloc _ _ _ (by simp)]; exact heap_alloc_new w _)
  have hc2 := ex_cell ((w.alloc (.cells #[.int .i64 a, .int .i64 b, .int .i64 c, .int .i64 d] 55)).alloc (.cells #[.int .i64 a2, .int .i64 b2, .int .i64 c2, .int .i64 d2] 55)) (w.heap.size + 1) a2 b2 c2 d2 (by
    have := heap_alloc_new (w.alloc (.cells #[.int .i64 a, .int .i64 b, .int .i64 c, .int .i64 d] 55)) (.cells #[.int .i64 a2, .int .i64 b2, .int .i64 c2, .int .i64 d2] 55)
    simpa using this)
  have HC1 := Lib.hid hc1
  have HC2 := Lib.hid hc2
  clear hc1 hc2
  obtain ⟨W, hW⟩ : ∃ W, W = ((w.alloc (.cells #[.int .i64 a, .int .i64 b, .int .i64 c, .int .i64 d] 55)).alloc (.cells #[.int .i64 a2, .int .i64 b2, .int .i64 c2, .int .i64 d2] 55)) := ⟨_, rfl⟩
  rw [← hW] at HC1 HC2 hbw
  have HW := Lib.hid hW
  clear hW
  go_enter Tryz.func49, Tryz.ntmps49
  go_wp2
  rw [← HW.out]
  clear HW
  go_loopw [5] (fun i wr => ∃ k : Nat, k ≤ 4 ∧ i = .int .i64 ((k : Int) - 1) ∧ Hid (∀ j, k ≤ j → j < 4 → ex (a, b, c, d) j = ex (a2, b2, c2, d2) j) ∧ Hid (Drawn W wr)) (fun i _ => (intOf i + 1).toNat)
  case atStart => exact ⟨4, by omega, rfl, Lib.hid (fun j hj hj4 => absurd hj (by omega)), Lib.hid (Drawn.refl _)⟩
  case round =>
    obtain ⟨k, hk, rfl, HV, Hw⟩ := hrel
    obtain ⟨m, hm⟩ := Hw.out
    subst hm
    rcases k with _ | k
    · have HF := Lib.hid (cmpTo_eq (e := (a, b, c, d)) (f := (a2, b2, c2, d2)) fun j hj => HV.out j (by omega) hj)
      go_wp2
      go_ret
      exact ⟨by rw [HF.out]; rfl, hbw.trans (((Drawn.refl _).drewN m).below _)⟩
    · have hx := HC1.out k (by omega)
      have hy := HC2.out k (by omega)
      have HV' := Lib.hid (show ∀ j, k < j → j < 4 → ex (a, b, c, d) j = ex (a2, b2, c2, d2) j from fun j hj h4 => HV.out j (by omega) h4)
      have e1 : (((k + 1 : Nat) : Int) - 1) = (k : Int) := by omega
      rw [e1]
      clear e1 HV
      have i0 : (0 : Int) ≤ (k : Int) := by omega
      have i1 : (k : Int) < 4 := by omega
      rcases Int.lt_trichotomy (ex (a, b, c, d) k) (ex (a2, b2, c2, d2) k) with hd | hd | hd
      · have HF := Lib.hid (cmpTo_lt (by omega) HV'.out hd)
        generalize ex (a, b, c, d) k = x at *
        generalize ex (a2, b2, c2, d2) k = y at *
        have hb1 : (x != y) = true := by rw [bne_iff_ne]; omega
        clear HV'
        go_wp2
        go_quiet (fail)
        go_wp2
        go_quiet (fail)
        go_wp2
        go_ret
        refine ⟨by rw [HF.out]; show Ending.returned (Value.bool (decide (y < x))) = _; rw [decide_eq_false (by omega)]; rfl, hbw.trans (Drawn.below ?_ _)⟩
        repeat (first | exact Drawn.refl _ | refine Drawn.drewN ?_ _)
      · have HV2 := Lib.hid (show ∀ j, k ≤ j → j < 4 → ex (a, b, c, d) j = ex (a2, b2, c2, d2) j from fun j hj h4 => by
          rcases Nat.eq_or_lt_of_le hj with h1 | h1
          · rw [← h1]; exact hd
          · exact HV'.out j h1 h4)
        generalize ex (a, b, c, d) k = x at *
        generalize ex (a2, b2, c2, d2) k = y at *
        have hb1 : (x != y) = false := by rw [hd]; simp
        have HD := Lib.hid hd
        clear HV' hd
        go_wp2
        go_quiet (fail)
        go_wp2
        go_roundw
        case rel => exact ⟨k, by omega, by go_num, HV2, Lib.hid (by repeat (first | exact Drawn.refl _ | refine Drawn.drewN ?_ _))⟩
        case measure => simp [intOf]
      · have HF := Lib.hid (cmpTo_gt (by omega) HV'.out hd)
        generalize ex (a, b, c, d) k = x at *
        generalize ex (a2, b2, c2, d2) k = y at *
        have hb1 : (x != y) = true := by rw [bne_iff_ne]; omega
        clear HV'
        go_wp2
        go_quiet (fail)
        go_wp2
        go_quiet (fail)
        go_wp2
        go_ret
        refine ⟨by rw [HF.out]; rfl, hbw.trans (Drawn.below ?_ _)⟩
        repeat (first | exact Drawn.refl _ | refine Drawn.drewN ?_ _)

/-- A drawn polynomial's term: coefficient and exponents. -/
abbrev Mono := Int × Ex
def flatM (L : List Mono) : List Value := L.flatMap fun m => [.int .i8 m.1, .int .u8 m.2.1, .int .u8 m.2.2.1, .int .u8 m.2.2.2.1, .int .u8 m.2.2.2.2]
/-- What each exponent of the first k terms is at most. -/
def small (m : Mono) : Prop := ∀ j, j < 4 → ex m.2 j ≤ 2
/-- The slice of a drawn polynomial. -/
structure MonoR (B : Nat) (w : World) (A : Option Addr) (n c : Nat) (L : List Mono) : Prop where
  row : Row B 49 w A n c 5 (flatM L)
  lenL : L.length = n
  rng : ∀ m ∈ L, -128 ≤ m.1 ∧ m.1 ≤ 127 ∧ ∀ j, 0 ≤ ex m.2 j ∧ ex m.2 j ≤ 255

theorem digs_one {m : Nat} (h : 0 < m) (h2 : m < 4294967296) : digs m = [m] := by
  rw [digs_pos (by omega), Nat.div_eq_of_lt h2, digs_zero, Nat.mod_eq_of_lt h2]
theorem one_dig (B : Nat) (w : World) (o : Obj) (m : Nat) (h : 0 < m) (h2 : m < 4294967296) : Dig B ((w.alloc o).alloc (.cells #[.int .u32 (m : Int)] 83)) (some ⟨w.heap.size + 1, 0, none⟩) 1 1 (digs m) := by
  have h1 := Row.new B 83 (w.alloc o) 1 1 #[.int .u32 (m : Int)] rfl (by omega)
  rw [show (w.alloc o).heap.size = w.heap.size + 1 by simp] at h1
  refine ⟨?_, digs_lt32 m⟩
  rw [digs_one h h2]
  exact h1
set_option maxRecDepth 100000 in
set_option maxHeartbeats 1000000 in
theorem int_any (B : Nat) (z : Int) (hz : -128 ≤ z) (hz2 : z ≤ 127) (w : World) : Calls Tryz.prog 25 #[.int .i8 z] w (IntP B z w) := by
  rcases Int.lt_trichotomy z 0 with h | h | h
  · obtain ⟨m, rfl⟩ : ∃ m : Nat, z = -(m : Int) := ⟨z.natAbs, by omega⟩
    go_enter Tryz.func25, Tryz.ntmps25
    go_wp2
    refine bodyPost_ret (v := .agg #[.bool true, .slice (some ⟨w.heap.size + 1, 0, none⟩) 1 1]) (by simp [results, Tryz.results25, go_sem]) rfl ?_
    refine ⟨some ⟨w.heap.size + 1, 0, none⟩, 1, 1, by rw [decide_eq_true h], ?_, ((Below.refl _ _).alloc (Nat.le_refl _) _).alloc (by simp) _⟩
    rw [show (-(m : Int)).natAbs = m by omega]
    exact one_dig B w _ m (by omega) (by omega)
  · subst h
    go_enter Tryz.func25, Tryz.ntmps25
    go_wp2
    refine bodyPost_ret (v := .agg #[.bool false, .slice none 0 0]) (by simp [results, Tryz.results25, go_sem]) rfl ?_
    refine ⟨none, 0, 0, rfl, ?_, (Below.refl _ _).alloc (Nat.le_refl _) _⟩
    show Dig B _ none 0 0 (digs 0)
    rw [digs_zero]
    exact Dig.nil
  · obtain ⟨m, rfl⟩ : ∃ m : Nat, z = (m : Int) := ⟨z.natAbs, by omega⟩
    go_enter Tryz.func25, Tryz.ntmps25
    go_wp2
    refine bodyPost_ret (v := .agg #[.bool false, .slice (some ⟨w.heap.size + 1, 0, none⟩) 1 1]) (by simp [results, Tryz.results25, go_sem]) rfl ?_
    refine ⟨some ⟨w.heap.size + 1, 0, none⟩, 1, 1, by rw [decide_eq_false (by omega)], ?_, ((Below.refl _ _).alloc (Nat.le_refl _) _).alloc (by simp) _⟩
    exact one_dig B w _ m (by omega) (by omega)

/-- All exponents of these terms are at most y. -/
def FewL (L : List Mono) (y : Int) : Prop := ∀ m ∈ L, ∀ j, j < 4 → ex m.2 j ≤ y
theorem flatM_at (L : List Mono) (i : Nat) (m : Mono) (h : L[i]? = some m) (j : Nat) (hj : j < 4) : (flatM L)[i * 5 + 1 + j]? = some (.int .u8 (ex m.2 j)) := by
  induction L generalizing i with
  | nil => simp at h
  | cons x L ih =>
    cases i with
    | zero =>
      simp at h
      subst h
      match j, hj with
      | 0, _ => rfl
      | 1, _ => rfl
      | 2, _ => rfl
      | 3, _ => rfl
    | succ i =>
      have h1 := ih i (by simpa using h)
      rw [show (i + 1) * 5 + 1 + j = 5 + (i * 5 + 1 + j) by omega]
      show ([_, _, _, _, _] ++ flatM L)[5 + (i * 5 + 1 + j)]? = _
      rw [List.getElem?_append_right (by simp)]
      simpa using h1
theorem flatM_coef (L : List Mono) (i : Nat) (m : Mono) (h : L[i]? = some m) : (flatM L)[i * 5]? = some (.int .i8 m.1) := by
  induction L generalizing i with
  | nil => simp at h
  | cons x L ih =>
    cases i with
    | zero => simp at h; subst h; rfl
    | succ i =>
      have h1 := ih i (by simpa using h)
      rw [show (i + 1) * 5 = 5 + i * 5 by omega]
      show ([_, _, _, _, _] ++ flatM L)[5 + i * 5]? = _
      rw [List.getElem?_append_right (by simp)]
      simpa using h1
/-- The cells of a drawn polynomial. -/
theorem MonoR.cells {B : Nat} {w : World} {A : Option Addr} {n c : Nat} {L : List Mono} (h : MonoR B w A n c L) (hn : 0 < n) : ∃ b off, A = some ⟨b, off, none⟩ ∧ b < w.heap.size ∧
    ∀ k, k < n → ∃ m, L[k]? = some m ∧ w.cell? ⟨b, off + k * 5, none⟩ = some (.int .i8 m.1) ∧ ∀ j, j < 4 → w.cell? ⟨b, off + k * 5 + 1 + j, none⟩ = some (.int .u8 (ex m.2 j)) := by
  obtain ⟨b, off, hA, hb, hc⟩ := h.row.flatAt hn (by omega)
  refine ⟨b, off, hA, hb, fun k hk => ?_⟩
  obtain ⟨m, hm⟩ : ∃ m, L[k]? = some m := ⟨_, List.getElem?_eq_getElem (by rw [h.lenL]; exact hk)⟩
  refine ⟨m, hm, hc _ _ (flatM_coef L k m hm), fun j hj => ?_⟩
  rw [show off + k * 5 + 1 + j = off + (k * 5 + 1 + j) by omega]
  exact hc _ _ (flatM_at L k m hm j hj)

/-- The answer of Few. -/
def FewP (n m : Nat) (y : Int) (L : List Mono) (w : World) (e : Ending) (w' : World) : Prop :=
  (∃ b, e = .returned (.bool b) ∧ (b = true ↔ n ≤ m ∧ FewL L y)) ∧ Below w.heap.size w w'
set_option maxRecDepth 100000 in
set_option maxHeartbeats 1000000 in
theorem few_any (B : Nat) (A : Option Addr) (n c m : Nat) (y : Int) (L : List Mono) (w : World) (h : MonoR B w A n c L) (hn : n ≤ 9223372036854775807) (hm : m ≤ 1073741824) (_hy : 0 ≤ y) (_hy2 : y ≤ 255) :
    Calls Tryz.prog 6 #[.slice A n c, .int .i64 m, .int .u8 y] w (FewP n m y L w) := by
  have hcap := h.row.cap
  go_enter Tryz.func6, Tryz.ntmps6
  by_cases hnm : m < n
  · go_wp2
    go_ret
    exact ⟨⟨false, rfl, by constructor <;> intro h1; cases h1; omega⟩, Below.refl _ _⟩
  · go_wp2
    go_loop [7] (fun i => ∃ k : Nat, k ≤ n ∧ i = .int .i64 k ∧ Hid (FewL (L.take k) y)) (fun i => n - (intOf i).toNat)
    case atStart => exact ⟨0, Nat.zero_le _, rfl, Lib.hid (by intro m hm; simp at hm)⟩
    case round =>
      obtain ⟨k, hk, rfl, HV⟩ := hrel
      by_cases hkn : k < n
      · obtain ⟨b, off, rfl, hb, hc⟩ := h.cells (by omega)
        obtain ⟨mo, hmo, hc0, hcj⟩ := hc k hkn
        have HM := Lib.hid hmo
        have HC := Lib.hid hcj
        have i0 : (0 : Int) ≤ (k : Int) := by omega
        have i1 : (k : Int) < (n : Int) := by omega
        clear hc hc0 hcj hmo
        go_wp2
        go_loop [8] (fun i => ∃ j : Nat, j ≤ 4 ∧ i = .int .i64 j ∧ Hid (∀ l, l < j → ex mo.2 l ≤ y)) (fun i => 4 - (intOf i).toNat)
        case atStart => exact ⟨0, Nat.zero_le _, rfl, Lib.hid (by intro l hl; omega)⟩
        case round =>
          obtain ⟨j, hj, rfl, HJ⟩ := hrel
          by_cases hj4 : j < 4
          · have hx := HC.out j hj4
            have j0 : (0 : Int) ≤ (j : Int) := by omega
            have j1 : (j : Int) < 4 := by omega
            by_cases hd : y < ex mo.2 j
            · have HD := Lib.hid hd
              generalize ex mo.2 j = x at hx hd
              go_wp2
              go_ret
              refine ⟨⟨false, rfl, ?_⟩, Below.refl _ _⟩
              constructor
              · intro h1; cases h1
              · intro h1
                exact absurd (h1.2 mo (List.mem_of_getElem? HM.out) j hj4) (Int.not_le.2 HD.out)
            · have HD := Lib.hid hd
              generalize ex mo.2 j = x at hx hd
              go_wp2
              go_round
              case rel => exact ⟨j + 1, by omega, by go_num, Lib.hid (by
                intro l hl
                rcases Nat.eq_or_lt_of_le (Nat.lt_succ_iff.1 hl) with h2 | h2
                · rw [h2]; exact Int.not_lt.1 HD.out
                · exact HJ.out l h2)⟩
              case measure => simp [intOf]; omega
          · have hj' : j = 4 := by omega
            subst hj'
            go_wp2
            go_round
            case rel => exact ⟨k + 1, by omega, by go_num, Lib.hid (by
              intro m2 hm2
              rw [List.take_add_one, HM.out] at hm2
              rcases List.mem_append.1 hm2 with h2 | h2
              · exact HV.out m2 h2
              · simp at h2; rw [h2]; exact HJ.out)⟩
            case measure => simp [intOf]; omega
      · have hkn' : k = n := by omega
        subst hkn'
        go_wp2
        go_ret
        refine ⟨⟨true, rfl, ?_⟩, Below.refl _ _⟩
        have h1 := HV.out
        rw [List.take_of_length_le (by rw [h.lenL]; exact Nat.le_refl _)] at h1
        exact ⟨fun _ => ⟨by omega, h1⟩, fun _ => rfl⟩
end Go.Proofs.YtnknidfpkmnncaaGreat
/- checkpoly.Var, Degree. -/
namespace Go.Proofs.YtnknidfpkmnncaaGreat
open Go.RowKit

def unitE (i : Nat) : Ex := match i with
  | 1 => (1, 0, 0, 0)
  | 2 => (0, 1, 0, 0)
  | 3 => (0, 0, 1, 0)
  | _ => (0, 0, 0, 1)
/-- The polynomial x_i. -/
def varL (i : Nat) : List Tm := if 1 ≤ i ∧ i ≤ 4 then [(1, unitE i)] else []

theorem PolyC.one {B : Nat} {w : World} {A : Option Addr} {n c : Nat} {z : Int} (h : Dig B w A n c (digs z.natAbs)) (o : Obj) (e : Ex) (b : Bool) (hb : b = decide (z < 0)) :
    PolyC B ((w.alloc o).alloc (.cells #[.bool b, .slice A n c, .int .i64 e.1, .int .i64 e.2.1, .int .i64 e.2.2.1, .int .i64 e.2.2.2] 57)) (some ⟨w.heap.size + 1, 0, none⟩) 1 1 [(z, e)] := by
  subst hb
  have h1 := Row.new B 57 (w.alloc o) 1 6 #[.bool (decide (z < 0)), .slice A n c, .int .i64 e.1, .int .i64 e.2.1, .int .i64 e.2.2.1, .int .i64 e.2.2.2] rfl (by omega)
  rw [show (w.alloc o).heap.size = w.heap.size + 1 by simp] at h1
  exact ⟨[⟨decide (z < 0), A, n, c, e⟩], h1, Reps.one rfl ⟨rfl, h.below (((Below.refl _ _).alloc (Nat.le_refl _) _).alloc (by simp) _) (Nat.le_refl _)⟩⟩

set_option maxRecDepth 100000 in
set_option maxHeartbeats 1000000 in
theorem var_any (B i : Nat) (w : World) (hB : B ≤ w.heap.size) (h1 : 1 ≤ i) (h4 : i ≤ 4) : Calls Tryz.prog 11 #[.int .i64 i] w (PolyP B (varL i) w) := by
  have hi : i = 1 ∨ i = 2 ∨ i = 3 ∨ i = 4 := by omega
  unfold varL
  rw [if_pos ⟨h1, h4⟩]
  clear h1 h4
  rcases hi with rfl | rfl | rfl | rfl
  all_goals
    go_enter Tryz.func11, Tryz.ntmps11
    go_wp2_with fail
    refine (iof_any B 1 _ (by simpa using hB) (by omega) (by omega)).mono ?_
    rintro e w1 ⟨A1, n1, c1, rfl, h1, hb1⟩
    go_wp2
    go_ret
    exact ⟨_, _, _, rfl, (by first | exact PolyC.one h1 _ (unitE 1) false rfl | exact PolyC.one h1 _ (unitE 2) false rfl | exact PolyC.one h1 _ (unitE 3) false rfl | exact PolyC.one h1 _ (unitE 4) false rfl), hb1.trans (((Below.refl _ _).alloc hb1.size _).alloc (by have := hb1.size; simp; omega) _)⟩
/-- The highest exponent at j, or -1. -/
def degL (j : Nat) (al : List Tm) : Int := al.foldl (fun d p => max (max d 0) (ex p.2 j)) (-1)
theorem degL_step {al : List Tm} {k : Nat} {p : Tm} (h : al[k]? = some p) (j : Nat) : degL j (al.take (k + 1)) = max (max (degL j (al.take k)) 0) (ex p.2 j) := by
  unfold degL
  rw [List.take_add_one, h, List.foldl_append]
  rfl

set_option maxRecDepth 100000 in
set_option maxHeartbeats 1000000 in
theorem degree_any (B j : Nat) (A : Option Addr) (n c : Nat) (al : List Tm) (w : World) (hB : B ≤ w.heap.size) (h : PolyW B w A n c al) (hn : n < sortLim) (hl : l1 al < big) (hj : j < 4) :
    Calls Tryz.prog 9 #[.slice A n c, .int .i64 ((j : Int) + 1)] w (ValP (.int .i64 (degL j (nf al))) w) := by
  have hnm : n ≤ 1073741824 := by unfold sortLim at hn; omega
  go_enter Tryz.func9, Tryz.ntmps9
  go_wp2_with fail
  refine (normalp_any B A n c al _ hB h hn hl).mono ?_
  rintro e w1 ⟨A', n', c', rfl, h1, hb1⟩
  have hl1 : n' ≤ n := by have h3 := h1.len; have h4 := length_nf al; have h5 := h.len; omega
  have hc1 := h1.cap
  generalize nf al = a at *
  clear h hl
  go_wp2
  go_loopw [5, 11] (fun d i wr => ∃ (k : Nat) (z : Int), k ≤ n' ∧ i = .int .i64 k ∧ d = .int .i64 z ∧ Below w1.heap.size w1 wr ∧ Hid (degL j (a.take k) = z)) (fun _ i _ => n' - (intOf i).toNat)
  case atStart => exact ⟨0, -1, Nat.zero_le _, rfl, rfl, Below.refl _ _, Lib.hid rfl⟩
  case round =>
    obtain ⟨k, z, hk, rfl, rfl, hb, HV⟩ := hrel
    by_cases hkn : k < n'
    · obtain ⟨b, off, rfl, hs1, HT⟩ := h1.term (by omega)
      obtain ⟨t, p, hp, hte, hcf, hh2, hh4⟩ := HT k hkn
      have hh2' := held2_below hh2 hb hs1
      have hh4' := held4_below hh4 hb hs1
      obtain ⟨c0, c1⟩ := hh2'
      obtain ⟨d0, d1, d2, d3⟩ := hh4'
      have HP := Lib.hid hp
      have HTE := Lib.hid hte
      have i0 : (0 : Int) ≤ (k : Int) := by omega
      have i1 : (k : Int) < (n' : Int) := by omega
      clear HT hp hte hcf hh2 hh4
      have hx : [Value.bool t.neg, Value.slice t.A t.n t.c, Value.int .i64 t.e.1, Value.int .i64 t.e.2.1, Value.int .i64 t.e.2.2.1, Value.int .i64 t.e.2.2.2][2 + j]? = some (.int .i64 (ex t.e j)) := by
        match j, hj with
        | 0, _ => rfl
        | 1, _ => rfl
        | 2, _ => rfl
        | 3, _ => rfl
      have HZ := Lib.hid (show degL j (a.take (k + 1)) = max (max z 0) (ex t.e j) by rw [degL_step HP.out, HV.out, HTE.out])
      have hbx := hb.alloc hb.size (.cells #[.bool t.neg, .slice t.A t.n t.c, .int .i64 t.e.1, .int .i64 t.e.2.1, .int .i64 t.e.2.2.1, .int .i64 t.e.2.2.2] 57)
      generalize ex t.e j = x at hx HZ
      rcases Int.lt_or_le z 0 with hz | hz
      · rcases Int.lt_or_le x 0 with hx0 | hx0
        · go_wp2
          go_roundw
          case rel => exact ⟨k + 1, 0, by omega, by go_num, rfl, hbx, Lib.hid (by rw [HZ.out]; omega)⟩
          case measure => simp [intOf]; omega
        · go_wp2
          go_roundw
          case rel => exact ⟨k + 1, x, by omega, by go_num, (by congr 1; split <;> omega), hbx, Lib.hid (by rw [HZ.out]; omega)⟩
          case measure => simp [intOf]; omega
      · rcases Int.lt_or_le x z with hx0 | hx0
        · go_wp2
          go_roundw
          case rel => exact ⟨k + 1, z, by omega, by go_num, rfl, hbx, Lib.hid (by rw [HZ.out]; omega)⟩
          case measure => simp [intOf]; omega
        · go_wp2
          go_roundw
          case rel => exact ⟨k + 1, x, by omega, by go_num, (by congr 1; split <;> omega), hbx, Lib.hid (by rw [HZ.out]; omega)⟩
          case measure => simp [intOf]; omega
    · have hkn' : k = n' := by omega
      subst hkn'
      have HF := Lib.hid (show degL j a = z by have h2 := HV.out; rwa [List.take_of_length_le (by rw [h1.len]; exact Nat.le_refl _)] at h2)
      go_wp2
      go_ret
      exact ⟨by rw [HF.out]; rfl, hb1.trans (hb.mono hb1.size)⟩
end Go.Proofs.YtnknidfpkmnncaaGreat
/- checkpoly.Mul. -/
namespace Go.Proofs.YtnknidfpkmnncaaGreat
open Go.RowKit

def addE (e f : Ex) : Ex := (e.1 + f.1, e.2.1 + f.2.1, e.2.2.1 + f.2.2.1, e.2.2.2 + f.2.2.2)
def mulT (p q : Tm) : Tm := (p.1 * q.1, addE p.2 q.2)
/-- All products of a term of a with a term of b. -/
def prodL (a b : List Tm) : List Tm := a.flatMap fun p => b.map (mulT p)
/-- The exponents lie in a range in which sums don't overflow. -/
def Ebd (al : List Tm) : Prop := ∀ p ∈ al, ∀ j, j < 4 → ex p.2 j ≤ 1152921504606846976
theorem prodL_step {a b : List Tm} {k : Nat} {p : Tm} (h : a[k]? = some p) : prodL (a.take (k + 1)) b = prodL (a.take k) b ++ b.map (mulT p) := by
  unfold prodL
  rw [List.take_add_one, h]
  simp
theorem map_step {b : List Tm} {k : Nat} {p q : Tm} (h : b[k]? = some q) : (b.take (k + 1)).map (mulT p) = (b.take k).map (mulT p) ++ [mulT p q] := by
  rw [List.take_add_one, h]
  simp
theorem l1_map (p : Tm) (b : List Tm) : l1 (b.map (mulT p)) = p.1.natAbs * l1 b := by
  induction b with
  | nil => rfl
  | cons q b ih => rw [List.map_cons, l1_cons, ih, l1_cons, Nat.mul_add]; simp [mulT, Int.natAbs_mul]
theorem l1_prodL (a b : List Tm) : l1 (prodL a b) = l1 a * l1 b := by
  induction a with
  | nil => simp [prodL, l1_nil]
  | cons p a ih =>
    show l1 (b.map (mulT p) ++ prodL a b) = _
    rw [l1_append, ih, l1_map, l1_cons, Nat.add_mul]
theorem length_prodL (a b : List Tm) : (prodL a b).length = a.length * b.length := by
  induction a with
  | nil => simp [prodL]
  | cons p a ih =>
    show (b.map (mulT p) ++ prodL a b).length = _
    rw [List.length_append, ih, List.length_map, List.length_cons, Nat.add_mul]
    omega
theorem mem_foldr_ins {al : List Tm} {r : Tm} (h : r ∈ al.foldr ins []) : ∃ p ∈ al, r.2 = p.2 := by
  induction al generalizing r with
  | nil => simp at h
  | cons p al ih =>
    rcases mem_ins h with h1 | ⟨q, hq, h1⟩
    · exact ⟨p, by simp, h1⟩
    · obtain ⟨s, hs, h2⟩ := ih hq
      exact ⟨s, by simp [hs], h1.trans h2⟩
theorem mem_nf {al : List Tm} {r : Tm} (h : r ∈ nf al) : ∃ p ∈ al, r.2 = p.2 := by
  obtain ⟨p, hp, h1⟩ := mem_foldr_ins h
  exact ⟨p, (List.mem_filter.1 hp).1, h1⟩
theorem Ebd.nf {al : List Tm} (h : Ebd al) : Ebd (nf al) := fun r hr => by
  obtain ⟨p, hp, h1⟩ := mem_nf hr
  rw [h1]
  exact h p hp

/-- The state of Mul's loops: the row v bears the products so far. -/
structure M1 (B : Nat) (w : World) (pl : List Tm) (v : Value) (L : List TV) (wr : World) : Prop where
  own : wr.ownsRow w.heap.size 57 6 v L.length (flat L)
  reps : Reps (CoefC B wr) L pl
  below : Below w.heap.size w wr
theorem M1.start (B : Nat) (w : World) : M1 B w [] (.slice none 0 0) [] w :=
  ⟨World.ownsRow_nil _ _ _ _, trivial, Below.refl _ _⟩
theorem M1.later {B : Nat} {w : World} {pl : List Tm} {v : Value} {L : List TV} {wr w1 : World} (h : M1 B w pl v L wr) (hb : Below wr.heap.size wr w1) : M1 B w pl v L w1 :=
  ⟨own_below h.own hb, h.reps.mono fun _t _z _ hr => hr.below hb (Nat.le_refl _), h.below.trans (hb.mono h.below.size)⟩
theorem M1.push {B : Nat} {w : World} {pl : List Tm} {v : Value} {L : List TV} {wr w3 : World} {p : Tm} {t : TV} {g cap : Nat} (h : M1 B w pl v L wr) (he : t.e = p.2)
    (hown : w3.ownsRow w.heap.size 57 6 (.slice (some ⟨g, 0, none⟩) (L.length + 1) cap) (L.length + 1) (flat L ++ flat [t])) (hg : wr.grownBy w3 v.ownBlock)
    (hd : CoefC B wr t p.1) (hB : B ≤ w.heap.size) : M1 B w (pl ++ [p]) (.slice (some ⟨g, 0, none⟩) (L.length + 1) cap) (L ++ [t]) w3 := by
  have hne : 83 ≠ 57 := by decide
  refine ⟨by rw [List.length_append, flat_append]; exact hown, ?_, h.below.grown hg h.below.size (fun k hk => own_base h.own k hk)⟩
  exact (h.reps.mono fun t z _ hr => hr.grown h.own hg hB hne).append (Reps.one (z := p.1) he (hd.grown h.own hg hB hne))

/-- Six zero cells, not frozen. -/
abbrev Zero6 (w' : World) (H : Nat) : Prop :=
  w'.cell? ⟨H, 0, none⟩ = some (.bool false) ∧ w'.cell? ⟨H, 1, none⟩ = some (.slice none 0 0) ∧ w'.cell? ⟨H, 2, none⟩ = some (.int .i64 0) ∧ w'.cell? ⟨H, 3, none⟩ = some (.int .i64 0) ∧ w'.cell? ⟨H, 4, none⟩ = some (.int .i64 0) ∧ w'.cell? ⟨H, 5, none⟩ = some (.int .i64 0) ∧
  w'.frozen? ⟨H, 0, none⟩ = false ∧ w'.frozen? ⟨H, 1, none⟩ = false ∧ w'.frozen? ⟨H, 2, none⟩ = false ∧ w'.frozen? ⟨H, 3, none⟩ = false ∧ w'.frozen? ⟨H, 4, none⟩ = false ∧ w'.frozen? ⟨H, 5, none⟩ = false
theorem zero6_box (W : World) {w3 : World} (h : Below (W.alloc (.cells #[.bool false, .slice none 0 0, .int .i64 0, .int .i64 0, .int .i64 0, .int .i64 0] 57)).heap.size (W.alloc (.cells #[.bool false, .slice none 0 0, .int .i64 0, .int .i64 0, .int .i64 0, .int .i64 0] 57)) w3) : Zero6 w3 W.heap.size := by
  have hT := (Terms.box W ⟨false, none, 0, 0, (0, 0, 0, 0)⟩).below h
  obtain ⟨c0, c1, c2, c3, c4, c5⟩ := hT.six (i := 0) rfl
  simp only [Nat.zero_mul, Nat.zero_add] at c0 c1 c2 c3 c4 c5
  have hf := hT.frozen
  exact ⟨c0, c1, c2, c3, c4, c5, hf 0, hf 1, hf 2, hf 3, hf 4, hf 5⟩
/-- A box of one term. -/
def TBox (w : World) (g : Nat) (b : Bool) (A : Option Addr) (n c : Nat) (e : Ex) : Prop :=
  w.heap[g]? = some (.cells #[.bool b, .slice A n c, .int .i64 e.1, .int .i64 e.2.1, .int .i64 e.2.2.1, .int .i64 e.2.2.2] 57 (0, 0))
theorem TBox.ty {w : World} {g : Nat} {b : Bool} {A : Option Addr} {n c : Nat} {e : Ex} (h : TBox w g b A n c e) : Ty w g 57 := ⟨_, _, h⟩
theorem TBox.store6 {w : World} {g : Nat} {b : Bool} {A : Option Addr} {n c : Nat} {e : Ex} (h : TBox w g b A n c e) {b' : Bool} {A' : Option Addr} {n' c' : Nat} {x0 x1 x2 x3 : Int} :
    TBox ((((((w.setCell ⟨g, 0, none⟩ (.bool b')).setCell ⟨g, 1, none⟩ (.slice A' n' c')).setCell ⟨g, 2, none⟩ (.int .i64 x0)).setCell ⟨g, 3, none⟩ (.int .i64 x1)).setCell ⟨g, 4, none⟩ (.int .i64 x2)).setCell ⟨g, 5, none⟩ (.int .i64 x3)) g b' A' n' c' (x0, x1, x2, x3) := by
  unfold TBox at *
  simp [World.setCell, Array.getElem?_modify, h]
theorem Dig.store6 {B : Nat} {w : World} {A : Option Addr} {n c : Nat} {xs : List Nat} (h : Dig B w A n c xs) {g : Nat} {b : Bool} {A1 : Option Addr} {n1 c1 : Nat} {e : Ex} (hT : TBox w g b A1 n1 c1 e) (hB : B ≤ g) {v0 v1 v2 v3 v4 v5 : Value} :
    Dig B ((((((w.setCell ⟨g, 0, none⟩ v0).setCell ⟨g, 1, none⟩ v1).setCell ⟨g, 2, none⟩ v2).setCell ⟨g, 3, none⟩ v3).setCell ⟨g, 4, none⟩ v4).setCell ⟨g, 5, none⟩ v5) A n c xs := by
  have hne : 83 ≠ 57 := by decide
  have h0 := hT.ty
  have s1 := h.setCell (p := ⟨g, 0, none⟩) hB h0 hne v0
  have t1 := h0.setCell ⟨g, 0, none⟩ v0
  have s2 := s1.setCell (p := ⟨g, 1, none⟩) hB t1 hne v1
  have t2 := t1.setCell ⟨g, 1, none⟩ v1
  have s3 := s2.setCell (p := ⟨g, 2, none⟩) hB t2 hne v2
  have t3 := t2.setCell ⟨g, 2, none⟩ v2
  have s4 := s3.setCell (p := ⟨g, 3, none⟩) hB t3 hne v3
  have t4 := t3.setCell ⟨g, 3, none⟩ v3
  have s5 := s4.setCell (p := ⟨g, 4, none⟩) hB t4 hne v4
  have t5 := t4.setCell ⟨g, 4, none⟩ v4
  exact s5.setCell (p := ⟨g, 5, none⟩) hB t5 hne v5
/-- The exponents with the first j added. -/
def mix (j : Nat) (e f : Ex) : Ex := (if 0 < j then e.1 + f.1 else e.1, if 1 < j then e.2.1 + f.2.1 else e.2.1, if 2 < j then e.2.2.1 + f.2.2.1 else e.2.2.1, if 3 < j then e.2.2.2 + f.2.2.2 else e.2.2.2)
/-- The state of the loop over the exponents. -/
structure MExp (B : Nat) (W : World) (g : Nat) (b : Bool) (A : Option Addr) (n c : Nat) (xs : List Nat) (e : Ex) (wr : World) : Prop where
  box : TBox wr g b A n c e
  dig : Dig B wr A n c xs
  below : Below W.heap.size W wr
theorem TBox.six {w : World} {g : Nat} {b : Bool} {A : Option Addr} {n c : Nat} {e : Ex} (h : TBox w g b A n c e) : Held6 w g ⟨b, A, n, c, e⟩ := by
  unfold TBox at h
  unfold Held6 World.cell?
  simp [h]
theorem TBox.frozen {w : World} {g : Nat} {b : Bool} {A : Option Addr} {n c : Nat} {e : Ex} (h : TBox w g b A n c e) (i : Nat) : w.frozen? ⟨g, i, none⟩ = false := by
  unfold TBox at h
  unfold World.frozen?
  simp [h]
theorem MExp.set {B : Nat} {W : World} {g : Nat} {b : Bool} {A : Option Addr} {n c : Nat} {xs : List Nat} {e e' : Ex} {wr : World} (h : MExp B W g b A n c xs e wr) (hB : B ≤ g) (hW : W.heap.size ≤ g) {i : Nat} {v : Value} (hb : TBox (wr.setCell ⟨g, i, none⟩ v) g b A n c e') : MExp B W g b A n c xs e' (wr.setCell ⟨g, i, none⟩ v) :=
  ⟨hb, h.dig.setCell (p := ⟨g, i, none⟩) hB h.box.ty (by decide) v, h.below.setCell hW v⟩
theorem TBox.set0 {w : World} {g : Nat} {b : Bool} {A : Option Addr} {n c : Nat} {e : Ex} (h : TBox w g b A n c e) (x : Int) : TBox (w.setCell ⟨g, 2, none⟩ (.int .i64 x)) g b A n c (x, e.2.1, e.2.2.1, e.2.2.2) := by
  unfold TBox at *
  simp [World.setCell, Array.getElem?_modify, h]
theorem TBox.set1 {w : World} {g : Nat} {b : Bool} {A : Option Addr} {n c : Nat} {e : Ex} (h : TBox w g b A n c e) (x : Int) : TBox (w.setCell ⟨g, 3, none⟩ (.int .i64 x)) g b A n c (e.1, x, e.2.2.1, e.2.2.2) := by
  unfold TBox at *
  simp [World.setCell, Array.getElem?_modify, h]
theorem TBox.set2 {w : World} {g : Nat} {b : Bool} {A : Option Addr} {n c : Nat} {e : Ex} (h : TBox w g b A n c e) (x : Int) : TBox (w.setCell ⟨g, 4, none⟩ (.int .i64 x)) g b A n c (e.1, e.2.1, x, e.2.2.2) := by
  unfold TBox at *
  simp [World.setCell, Array.getElem?_modify, h]
theorem TBox.set3 {w : World} {g : Nat} {b : Bool} {A : Option Addr} {n c : Nat} {e : Ex} (h : TBox w g b A n c e) (x : Int) : TBox (w.setCell ⟨g, 5, none⟩ (.int .i64 x)) g b A n c (e.1, e.2.1, e.2.2.1, x) := by
  unfold TBox at *
  simp [World.setCell, Array.getElem?_modify, h]
/-- The world of the inner loop: all that w2 had, but the row's block, is as it was. -/
structure M2 (w2 wr : World) (v0 v : Value) : Prop where
  grown : w2.grownBy wr v0.ownBlock
  own : v.ownBlock = v0.ownBlock ∨ ∀ g, v.ownBlock = some g → w2.heap.size ≤ g
theorem M2.start (w2 : World) (v0 : Value) : M2 w2 w2 v0 v0 := ⟨World.grownBy.refl w2 _, .inl rfl⟩
theorem M2.later {w2 wr w' : World} {v0 v : Value} (h : M2 w2 wr v0 v) (hb : Below wr.heap.size wr w') : M2 w2 w' v0 v :=
  ⟨⟨hb.os.trans h.grown.os, hb.tape.trans h.grown.tape, hb.output.trans h.grown.output, Nat.le_trans h.grown.size hb.size, fun k hk hn => (hb.block k (Nat.lt_of_lt_of_le hk h.grown.size)).trans (h.grown.block k hk hn)⟩, h.own⟩
theorem M2.push {w2 wr w3 : World} {v0 v : Value} {g n cap : Nat} (h : M2 w2 wr v0 v) (hg : wr.grownBy w3 v.ownBlock) (hat : v.ownBlock = some g ∨ w2.heap.size ≤ g) : M2 w2 w3 v0 (.slice (some ⟨g, 0, none⟩) n cap) := by
  refine ⟨⟨hg.os.trans h.grown.os, hg.tape.trans h.grown.tape, hg.output.trans h.grown.output, Nat.le_trans h.grown.size hg.size, fun k hk hn => ?_⟩, ?_⟩
  · refine (hg.block k (Nat.lt_of_lt_of_le hk h.grown.size) fun e => ?_).trans (h.grown.block k hk hn)
    rcases h.own with h1 | h1
    · exact hn (e.trans h1)
    · have := h1 k e.symm
      omega
  · have hv : (Value.slice (some ⟨g, 0, none⟩) n cap).ownBlock = some g := rfl
    rw [hv]
    rcases hat with h1 | h1
    · rcases h.own with h2 | h2
      · exact .inl (h1.symm.trans h2)
      · exact .inr fun g' e => by injection e with e; subst e; exact h2 g h1
    · exact .inr fun g' e => by injection e with e; omega
theorem held4_grown {w w' : World} {row : Option Nat} {b off : Nat} {e : Ex} (h : Held4 w b off e) (hg : w.grownBy w' row) (hne : some b ≠ row) (hlt : b < w.heap.size) : Held4 w' b off e := by
  have hc : ∀ o, w'.cell? ⟨b, o, none⟩ = w.cell? ⟨b, o, none⟩ := fun o => hg.cell_far ⟨b, o, none⟩ hlt hne
  unfold Held4
  rw [hc, hc, hc, hc]
  exact h
theorem held2_grown {w w' : World} {row : Option Nat} {b off : Nat} {t : TV} (h : Held2 w b off t) (hg : w.grownBy w' row) (hne : some b ≠ row) (hlt : b < w.heap.size) : Held2 w' b off t := by
  have hc : ∀ o, w'.cell? ⟨b, o, none⟩ = w.cell? ⟨b, o, none⟩ := fun o => hg.cell_far ⟨b, o, none⟩ hlt hne
  unfold Held2
  rw [hc, hc]
  exact h
/-- What a round makes: a new box with the product of the coefficients. -/
def MulCut (B : Nat) (W : World) (z : Int) (e : Ex) (v : Value) (wx : World) : Prop :=
  ∃ g A n c, v = .pointer (some ⟨g, 0, none⟩) ∧ TBox wx g (decide (z < 0)) A n c e ∧ Dig B wx A n c (digs z.natAbs) ∧ Below W.heap.size W wx ∧ W.heap.size ≤ g

def MulA (B : Nat) (W : World) (H : Nat) (z : Int) (e : Ending) (w3 : World) : Prop :=
  ∃ A n c, e = .returned (.agg #[.bool (decide (z < 0)), .slice A n c]) ∧ Dig B w3 A n c (digs z.natAbs) ∧ Below W.heap.size W w3 ∧ H < w3.heap.size
def MulB (B : Nat) (W : World) (H : Nat) (z : Int) (e : Ending) (w3 : World) : Prop :=
  ∃ A n c, e = .returned (.agg #[.bool (decide (z < 0)), .slice A n c]) ∧ Dig B w3 A n c (digs z.natAbs) ∧ Below W.heap.size W w3 ∧ H < w3.heap.size ∧ TBox w3 W.heap.size false none 0 0 (0, 0, 0, 0) ∧ Zero6 w3 W.heap.size
theorem tbox_below (W : World) {w3 : World} (h : Below (W.alloc (.cells #[.bool false, .slice none 0 0, .int .i64 0, .int .i64 0, .int .i64 0, .int .i64 0] 57)).heap.size (W.alloc (.cells #[.bool false, .slice none 0 0, .int .i64 0, .int .i64 0, .int .i64 0, .int .i64 0] 57)) w3) : TBox w3 W.heap.size false none 0 0 (0, 0, 0, 0) := by
  unfold TBox
  rw [h.block _ (by simp)]
  exact heap_alloc_new W _
set_option maxRecDepth 100000 in
set_option maxHeartbeats 4000000 in
theorem mulp_any (B : Nat) (A A2 : Option Addr) (n c n2 c2 : Nat) (al bl : List Tm) (w : World) (hB : B ≤ w.heap.size) (h : PolyW B w A n c al) (h2 : PolyW B w A2 n2 c2 bl) (hn : n < sortLim) (hn2 : n2 < sortLim) (hnn : n * n2 < sortLim)
    (hl : l1 al < big) (hl2 : l1 bl < big) (hll : l1 al * l1 bl < big) (he : Ebd al) (he2 : Ebd bl) :
    Calls Tryz.prog 18 #[.slice A n c, .slice A2 n2 c2] w (PolyP B (nf (prodL (nf al) (nf bl))) w) := by
  obtain ⟨i0, hi0, hz0, hz1, hz2⟩ := info_parts terminfo
  have hnm : n ≤ 1073741824 := by unfold sortLim at hn; omega
  have hnm2 : n2 ≤ 1073741824 := by unfold sortLim at hn2; omega
  have HL2 := Lib.hid hl2
  have HE2 := Lib.hid he2.nf
  have HE1 := Lib.hid he.nf
  have H2 := Lib.hid h2
  have HX := Lib.hid (show l1 (nf al) ≤ l1 al from l1_nf al)
  have HV1 := Lib.hid (show ∀ p ∈ nf al, validE p.2 = true from fun p hp => ((nf_canon al).2 p hp).2)
  have HV2 := Lib.hid (show ∀ p ∈ nf bl, validE p.2 = true from fun p hp => ((nf_canon bl).2 p hp).2)
  have HX2 := Lib.hid (show l1 (nf bl) ≤ l1 bl from l1_nf bl)
  clear he he2 h2 hl2
  go_enter Tryz.func18, Tryz.ntmps18
  go_wp2_with fail
  refine (normalp_any B A n c al _ hB h hn hl).mono ?_
  rintro e w1 ⟨A', n', c', rfl, h1, hb1⟩
  have hl1 : n' ≤ n := by have h3 := h1.len; have h4 := length_nf al; have h5 := h.len; omega
  have hc1 := h1.cap
  have hE1 := HE1.out
  clear h
  have HLL := Lib.hid hll
  clear hll
  have HL := Lib.hid hl
  clear hl
  generalize nf al = a at *
  have hws := hb1.size
  go_wp2
  go_loopw [5, 16] (fun v i wr => ∃ (k : Nat) (L : List TV), k ≤ n' ∧ i = .int .i64 k ∧ M1 B w1 (prodL (a.take k) (nf bl)) v L wr) (fun _ i _ => n' - (intOf i).toNat)
  case atStart => exact ⟨0, [], Nat.zero_le _, rfl, by simpa [prodL] using M1.start B w1⟩
  case round =>
    obtain ⟨W0, rfl⟩ : ∃ x, x = wr := ⟨_, rfl⟩
    obtain ⟨k, L, hk, rfl, hM⟩ := hrel
    by_cases hkn : k < n'
    · obtain ⟨b, off, rfl, hs1, HT⟩ := h1.term (by omega)
      obtain ⟨t, p, hp, hte, hcf, hh2, hh4⟩ := HT k hkn
      have hb := hM.below
      have hh2' := held2_below hh2 hb hs1
      have hh4' := held4_below hh4 hb hs1
      obtain ⟨c0, c1⟩ := hh2'
      obtain ⟨d0, d1, d2, d3⟩ := hh4'
      have HP := Lib.hid hp
      have HTE := Lib.hid hte
      have hcf1 := hcf.below hb (Nat.le_refl _)
      have hgl0 := fun g hg => own_lt hM.own g hg
      have i0' : (0 : Int) ≤ (k : Int) := by omega
      have i1 : (k : Int) < (n' : Int) := by omega
      clear HT hp hte hcf hh2 hh4
      have hbx : Below W0.heap.size W0 (W0.alloc (.cells #[.bool t.neg, .slice t.A t.n t.c, .int .i64 t.e.1, .int .i64 t.e.2.1, .int .i64 t.e.2.2.1, .int .i64 t.e.2.2.2] 57)) := (Below.refl _ _).alloc (Nat.le_refl _) _
      go_wp2_with fail
      refine (normalp_new B A2 n2 c2 bl _ (by have := hb.size; simp; omega) (H2.out.below (hb1.trans ((hb.trans (hbx.mono hb.size)).mono hws)) (Nat.le_refl _)) hn2 HL2.out).mono ?_
      rintro e w2 ⟨A2', n2', c2', rfl, h22, hb2, hnew⟩
      have HNEW := Lib.hid hnew
      clear hnew
      have hl22 : n2' ≤ n2 := by have h3 := h22.len; have h4 := length_nf bl; have h5 := H2.out.len; omega
      have hc2 := h22.cap
      have hM2 := (hM.later hbx).later hb2
      have hcf2 := (hcf1.below hbx (Nat.le_refl _)).below hb2 (Nat.le_refl _)
      have hbox6 := (((Terms.box W0 t)).below hb2).six (i := 0) (t := t) rfl
      simp only [Nat.zero_mul, Nat.zero_add] at hbox6
      have hg2 : W0.heap.size < w2.heap.size := by have := hb2.size; simp at this; omega
      clear hb2 c0 c1 d0 d1 d2 d3 hcf1 hbx hM
      go_wp2
      obtain ⟨v0, rfl⟩ : ∃ x, x = u5 := ⟨_, rfl⟩
      go_loopw [5, 23] (fun v i wr => ∃ (l : Nat) (L2 : List TV), l ≤ n2' ∧ i = .int .i64 l ∧ M2 w2 wr v0 v ∧ M1 B w1 (prodL (a.take k) (nf bl) ++ ((nf bl).take l).map (mulT p)) v L2 wr) (fun _ i _ => n2' - (intOf i).toNat)
      case atStart => exact ⟨0, L, Nat.zero_le _, rfl, M2.start _ _, by simpa using hM2⟩
      case round =>
        obtain ⟨l, L2, hl, rfl, hQ, hM⟩ := hrel
        by_cases hln : l < n2'
        · obtain ⟨b2, off2, rfl, hs2, HT⟩ := h22.term (by omega)
          obtain ⟨s, q, hq, hse, hcs, hg22, hg4⟩ := HT l hln
          have hbr := hQ.grown
          have hbn : some b2 ≠ v0.ownBlock := fun e => by
            have h8 := hgl0 b2 e.symm
            have h9 := HNEW.out _ rfl
            simp at h9
            omega
          obtain ⟨c0, c1⟩ := held2_grown hg22 hbr hbn hs2
          obtain ⟨d0, d1, d2, d3⟩ := held4_grown hg4 hbr hbn hs2
          have HQ := Lib.hid hq
          have HSE := Lib.hid hse
          have hcs1 := hcs.grown hM2.own hbr (by omega) (by decide)
          have hcf3 := hcf2.grown hM2.own hbr (by omega) (by decide)
          have hpn : t.n ≤ 1099511627776 := (hcf3.wide (Nat.lt_of_le_of_lt (Nat.le_trans (l1_mem (List.mem_of_getElem? HP.out)) HX.out) HL.out)).2
          have hqn : s.n ≤ 1099511627776 := (hcs1.wide (Nat.lt_of_le_of_lt (Nat.le_trans (l1_mem (List.mem_of_getElem? HQ.out)) HX2.out) HL2.out)).2
          have j0 : (0 : Int) ≤ (l : Int) := by omega
          have j1 : (l : Int) < (n2' : Int) := by omega
          have hB6 : Held6 wr W0.heap.size t := held6_grown hbox6 hbr (fun g hg => hgl0 g hg.symm.symm) hg2
          have hgr : W0.heap.size < wr.heap.size := by have := hbr.size; omega
          have hbs : Below wr.heap.size wr (wr.alloc (.cells #[.bool s.neg, .slice s.A s.n s.c, .int .i64 s.e.1, .int .i64 s.e.2.1, .int .i64 s.e.2.2.1, .int .i64 s.e.2.2.2] 57)) := (Below.refl _ _).alloc (Nat.le_refl _) _
          clear HT hq hse hcs hg22 hg4
          have HMUL := Lib.hid (show iv t.neg (val (digs p.1.natAbs)) * iv s.neg (val (digs q.1.natAbs)) = p.1 * q.1 by rw [CoefC.eq hcf3, CoefC.eq hcs1])
          have hdt := (hcf3.2.below hbs (Nat.le_refl _))
          have hds := (hcs1.2.below hbs (Nat.le_refl _))
          have hT9 := ((Terms.box wr s)).six (i := 0) (t := s) rfl
          simp only [Nat.zero_mul, Nat.zero_add] at hT9
          have hT7 := held6_below hB6 hbs hgr
          have hM3 := hM.later hbs
          have hg9 : wr.heap.size < (wr.alloc (.cells #[.bool s.neg, .slice s.A s.n s.c, .int .i64 s.e.1, .int .i64 s.e.2.1, .int .i64 s.e.2.2.1, .int .i64 s.e.2.2.2] 57)).heap.size := by simp
          have hQ3 := hQ.later hbs
          have HQ3 := Lib.hid hQ3
          clear hQ3
          go_upto_region 8 with (fail)
          obtain ⟨W, hW⟩ : ∃ W, W = (wr.alloc (.cells #[.bool s.neg, .slice s.A s.n s.c, .int .i64 s.e.1, .int .i64 s.e.2.1, .int .i64 s.e.2.2.1, .int .i64 s.e.2.2.2] 57)) := ⟨_, rfl⟩
          rw [← hW] at hT7 hT9 hdt hds hM3 hg9 HQ3 ⊢
          clear hW hbs hM hQ hbr hB6 c0 c1 d0 d1 d2 d3 hcf3 hcs1
          have HM3 := Lib.hid hM3
          clear hM3
          have hBW : B ≤ W.heap.size := by have := HM3.out.below.size; omega
          have hg7 : W0.heap.size < W.heap.size := by omega
          have HALL := Lib.hid (show ∀ W', Below W.heap.size W W' → Calls Tryz.prog 36 #[.agg #[.bool t.neg, .slice t.A t.n t.c], .agg #[.bool s.neg, .slice s.A s.n s.c]] W' (IntP B (p.1 * q.1) W') from fun W' hb' => by
            have h9 := imul_any B t.neg s.neg t.A s.A t.n t.c s.n s.c (digs p.1.natAbs) (digs q.1.natAbs) W' (Nat.le_trans hBW hb'.size) (hdt.below hb' (Nat.le_refl _)) (hds.below hb' (Nat.le_refl _)) hpn hqn
            rw [HMUL.out] at h9
            exact h9)
          have HCa := Lib.hid (show Calls Tryz.prog 36 #[.agg #[.bool t.neg, .slice t.A t.n t.c], .agg #[.bool s.neg, .slice s.A s.n s.c]] W.drew (MulA B W W0.heap.size (p.1 * q.1)) from (HALL.out _ (Below.drew (Below.refl _ _))).mono fun e3 w3 hp => by
            obtain ⟨A3, n3, c3, he, h3, hb3⟩ := hp
            have hb4 := (Below.drew (Below.refl W.heap.size W)).trans (hb3.mono (Nat.le_refl _))
            exact ⟨A3, n3, c3, he, h3, hb4, Nat.lt_of_lt_of_le hg7 hb4.size⟩)
          have HCb := Lib.hid (show Calls Tryz.prog 36 #[.agg #[.bool t.neg, .slice t.A t.n t.c], .agg #[.bool s.neg, .slice s.A s.n s.c]] (W.alloc (.cells #[.bool false, .slice none 0 0, .int .i64 0, .int .i64 0, .int .i64 0, .int .i64 0] 57)).drew (MulB B W W0.heap.size (p.1 * q.1)) from (HALL.out _ (Below.drew (Below.alloc (Below.refl _ _) (Nat.le_refl _) _))).mono fun e3 w3 hp => by
            obtain ⟨A3, n3, c3, he, h3, hb3⟩ := hp
            have hb5 : Below (W.alloc (.cells #[.bool false, .slice none 0 0, .int .i64 0, .int .i64 0, .int .i64 0, .int .i64 0] 57)).heap.size (W.alloc (.cells #[.bool false, .slice none 0 0, .int .i64 0, .int .i64 0, .int .i64 0, .int .i64 0] 57)) w3 := (Below.drew (Below.refl _ _)).trans hb3
            have hb4 := (Below.alloc (Below.refl W.heap.size W) (Nat.le_refl _) _).trans (hb5.mono (by simp))
            exact ⟨A3, n3, c3, he, h3, hb4, Nat.lt_of_lt_of_le hg7 hb4.size, tbox_below W hb5, zero6_box W hb5⟩)
          have HA0 := Lib.hid (show ∀ o, Below W.heap.size W (W.alloc o).drew from fun o => Below.drew (Below.alloc (Below.refl _ _) (Nat.le_refl _) _))
          have HSC := Lib.hid (show ∀ w3 i v, Below W.heap.size W w3 → Below W.heap.size W (w3.setCell ⟨W.heap.size, i, none⟩ v) from fun w3 i v hb => hb.setCell (Nat.le_refl _) v)
          have HSS := Lib.hid (show ∀ w3, Below W.heap.size W w3 → Held6 w3 W0.heap.size t ∧ Held6 w3 wr.heap.size s from fun w3 hb => ⟨held6_below hT7 hb hg7, held6_below hT9 hb hg9⟩)
          clear HALL hT7 hT9 hdt hds HMUL
          have hbq := Below.refl W.heap.size W
          go_cut [10] (fun v wx => MulCut B W (p.1 * q.1) t.e v wx)
          case first =>
            go_region_held3 (fun w' => Held6 w' W0.heap.size t ∧ Held6 w' wr.heap.size s) (first | (with_reducible refine HSS.out _ (HSC.out _ _ _ ?_); with_reducible exact (HSC.out _ _ _ (HSC.out _ _ _ (HSC.out _ _ _ (HSC.out _ _ _ (HSC.out _ _ _ hbq)))))) | with_reducible exact HSS.out _ (Below.alloc hbq hbq.size _) | with_reducible exact HSS.out _ (HA0.out _) | with_reducible exact HSS.out _ hbq | exact HSS.out _ (Below.drew (Below.refl _ _)))
              (first
                | (go_at_call 36; (with_reducible refine HCa.out.mono ?_); rintro e3 w3 ⟨A3, n3, c3, rfl, h3, hbq, g3⟩)
                | (go_at_call 36; (with_reducible refine HCb.out.mono ?_); rintro e3 w3 ⟨A3, n3, c3, rfl, h3, hbq, g3, hTB, z0, z1, z2, z3, z4, z5, y0, y1, y2, y3, y4, y5⟩))
            · go_wp2
              go_meet
              exact ⟨w3.heap.size, A3, n3, c3, rfl, heap_alloc_new w3 _, h3.below ((Below.refl _ _).alloc (Nat.le_refl _) _) (Nat.le_refl _), hbq.alloc hbq.size _, hbq.size⟩
            · go_wp2
              go_meet
              refine ⟨W.heap.size, A3, n3, c3, rfl, hTB.store6, ?_, ?_, Nat.le_refl _⟩
              · exact h3.store6 hTB (by omega)
              · exact (((((hbq.setCell (Nat.le_refl _) _).setCell (Nat.le_refl _) _).setCell (Nat.le_refl _) _).setCell (Nat.le_refl _) _).setCell (Nat.le_refl _) _).setCell (Nat.le_refl _) _
          case rest =>
            obtain ⟨g, A3, n3, c3, rfl, hTB, hd3, hbW, hWg⟩ := hcut
            obtain ⟨q0, q1, q2, q3, q4, q5⟩ := (HSS.out _ hbW).2
            have HBT := Lib.hid (show ∀ j, j < 4 → 0 ≤ ex t.e j ∧ ex t.e j ≤ 1152921504606846976 from fun j hj => ⟨validE_iff.1 (by rw [HTE.out]; exact HV1.out p (List.mem_of_getElem? HP.out)) j hj, by rw [HTE.out]; exact hE1 p (List.mem_of_getElem? HP.out) j hj⟩)
            have HBS := Lib.hid (show ∀ j, j < 4 → 0 ≤ ex s.e j ∧ ex s.e j ≤ 1152921504606846976 from fun j hj => ⟨validE_iff.1 (by rw [HSE.out]; exact HV2.out q (List.mem_of_getElem? HQ.out)) j hj, by rw [HSE.out]; exact HE2.out q (List.mem_of_getElem? HQ.out) j hj⟩)
            have hix0 := ind0 s.e.1 s.e.2.1 s.e.2.2.1 s.e.2.2.2
            have hix1 := ind1 s.e.1 s.e.2.1 s.e.2.2.1 s.e.2.2.2
            have hix2 := ind2 s.e.1 s.e.2.1 s.e.2.2.1 s.e.2.2.2
            have hix3 := ind3 s.e.1 s.e.2.1 s.e.2.2.1 s.e.2.2.2
            have hME : MExp B W g (decide (p.1 * q.1 < 0)) A3 n3 c3 (digs (p.1 * q.1).natAbs) (mix 0 t.e s.e) wc := ⟨hTB, hd3, hbW⟩
            clear HCa HCb HA0 HSC hbq hTB hd3
            go_wp2
            clear q0 q1 q2 q3 q4 q5
            go_loopw [37] (fun i wr => ∃ j : Nat, j ≤ 4 ∧ i = .int .i64 j ∧ MExp B W g (decide (p.1 * q.1 < 0)) A3 n3 c3 (digs (p.1 * q.1).natAbs) (mix j t.e s.e) wr) (fun i _ => 4 - (intOf i).toNat)
            case atStart => exact ⟨0, by omega, rfl, hME⟩
            case round =>
              obtain ⟨j, hj, rfl, hMJ⟩ := hrel
              have hbx6 := hMJ.box.six
              have hfz := hMJ.box.frozen
              obtain ⟨r0, r1, r2, r3, r4, r5⟩ := hbx6
              rcases j with _ | _ | _ | _ | j
              · have hst := hMJ.set (by omega) hWg (hMJ.box.set0 (t.e.1 + s.e.1))
                have hb1 := HBT.out 0 (by omega)
                have hb2 := HBS.out 0 (by omega)
                have hwr : wrap64 (t.e.1 + s.e.1) = t.e.1 + s.e.1 := by simp only [ex] at hb1 hb2; unfold wrap64; omega
                have HST := Lib.hid hst
                clear hst hb1 hb2
                replace r2 : wr.cell? ⟨g, 2, none⟩ = some (.int .i64 t.e.1) := r2
                go_wp2
                exact ⟨⟨1, by omega, rfl, HST.out⟩, by simp [intOf]⟩
              · have hst := hMJ.set (by omega) hWg (hMJ.box.set1 (t.e.2.1 + s.e.2.1))
                have hb1 := HBT.out 1 (by omega)
                have hb2 := HBS.out 1 (by omega)
                have hwr : wrap64 (t.e.2.1 + s.e.2.1) = t.e.2.1 + s.e.2.1 := by simp only [ex] at hb1 hb2; unfold wrap64; omega
                have HST := Lib.hid hst
                clear hst hb1 hb2
                replace r3 : wr.cell? ⟨g, 3, none⟩ = some (.int .i64 t.e.2.1) := r3
                go_wp2
                exact ⟨⟨2, by omega, rfl, HST.out⟩, by simp [intOf]⟩
              · have hst := hMJ.set (by omega) hWg (hMJ.box.set2 (t.e.2.2.1 + s.e.2.2.1))
                have hb1 := HBT.out 2 (by omega)
                have hb2 := HBS.out 2 (by omega)
                have hwr : wrap64 (t.e.2.2.1 + s.e.2.2.1) = t.e.2.2.1 + s.e.2.2.1 := by simp only [ex] at hb1 hb2; unfold wrap64; omega
                have HST := Lib.hid hst
                clear hst hb1 hb2
                replace r4 : wr.cell? ⟨g, 4, none⟩ = some (.int .i64 t.e.2.2.1) := r4
                go_wp2
                exact ⟨⟨3, by omega, rfl, HST.out⟩, by simp [intOf]⟩
              · have hst := hMJ.set (by omega) hWg (hMJ.box.set3 (t.e.2.2.2 + s.e.2.2.2))
                have hb1 := HBT.out 3 (by omega)
                have hb2 := HBS.out 3 (by omega)
                have hwr : wrap64 (t.e.2.2.2 + s.e.2.2.2) = t.e.2.2.2 + s.e.2.2.2 := by simp only [ex] at hb1 hb2; unfold wrap64; omega
                have HST := Lib.hid hst
                clear hst hb1 hb2
                replace r5 : wr.cell? ⟨g, 5, none⟩ = some (.int .i64 t.e.2.2.2) := r5
                go_wp2
                exact ⟨⟨4, by omega, rfl, HST.out⟩, by simp [intOf]⟩
              · obtain rfl : j = 0 := by omega
                replace r0 : wr.cell? ⟨g, 0, none⟩ = some (.bool (decide (p.1 * q.1 < 0))) := r0
                replace r1 : wr.cell? ⟨g, 1, none⟩ = some (.slice A3 n3 c3) := r1
                replace r2 : wr.cell? ⟨g, 2, none⟩ = some (.int .i64 (t.e.1 + s.e.1)) := r2
                replace r3 : wr.cell? ⟨g, 3, none⟩ = some (.int .i64 (t.e.2.1 + s.e.2.1)) := r3
                replace r4 : wr.cell? ⟨g, 4, none⟩ = some (.int .i64 (t.e.2.2.1 + s.e.2.2.1)) := r4
                replace r5 : wr.cell? ⟨g, 5, none⟩ = some (.int .i64 (t.e.2.2.2 + s.e.2.2.2)) := r5
                have hal : Below wr.heap.size wr (wr.alloc (.cells #[.bool (decide (p.1 * q.1 < 0)), .slice A3 n3 c3, .int .i64 (t.e.1 + s.e.1), .int .i64 (t.e.2.1 + s.e.2.1), .int .i64 (t.e.2.2.1 + s.e.2.2.1), .int .i64 (t.e.2.2.2 + s.e.2.2.2)] 57)) := (Below.refl _ _).alloc (Nat.le_refl _) _
                have hM5 := (HM3.out.later hMJ.below).later hal
                have hQ5 := (HQ3.out.later hMJ.below).later hal
                have hd5 := hMJ.dig.below hal (Nat.le_refl _)
                have hLn : L2.length ≤ 1073741824 := by
                  have h3 := HM3.out.reps.length
                  have h4 := h22.len
                  rw [List.length_append, length_prodL, List.length_map, List.length_take, List.length_take] at h3
                  have h5 : min k a.length * (nf bl).length ≤ k * n2' := Nat.mul_le_mul (Nat.min_le_left _ _) (by omega)
                  have h6 : (k + 1) * n2' ≤ n * n2 := Nat.mul_le_mul (by omega) hl22
                  rw [Nat.add_mul, Nat.one_mul] at h6
                  unfold sortLim at hnn
                  omega
                have hw1r : w1.heap.size ≤ wr.heap.size := by have h3 := HM3.out.below.size; have h4 := hMJ.below.size; omega
                have hw2r : w2.heap.size ≤ wr.heap.size := by have h3 := HQ3.out.grown.size; have h4 := hMJ.below.size; omega
                clear hMJ hfz hix0 hix1 hix2 hix3 hME hal
                go_wp2_with (at_builtin; refine wpList_append_lies _ rfl _ _ _ rfl w1.heap.size 57 i0 _ 6 64 Tryz.underlying27 hi0 hz0 hz1 hz2 rfl (by omega) u5 L2.length (flat L2) rfl hM5.own ⟨wr.heap.size, 0, none⟩ 1 1 (flat [⟨decide (p.1 * q.1 < 0), A3, n3, c3, addE t.e s.e⟩]) rfl rfl (World.news_of_block (cs := #[.bool (decide (p.1 * q.1 < 0)), .slice A3 n3 c3, .int .i64 (t.e.1 + s.e.1), .int .i64 (t.e.2.1 + s.e.2.1), .int .i64 (t.e.2.2.1 + s.e.2.2.1), .int .i64 (t.e.2.2.2 + s.e.2.2.2)]) (t := 57) (fr := (0, 0)) (heap_alloc_new wr _)) (flat_one _) (by omega) (by simp only [maxLen]; omega) (by omega) (by simp; omega) (wr.heap.size + 1) (by simp) ?_; intro gg cap w3 hown3 hgrow hat hlt3)
                have hM6 := hM5.push (p := mulT p q) (t := ⟨decide (p.1 * q.1 < 0), A3, n3, c3, addE t.e s.e⟩) (by show addE t.e s.e = addE p.2 q.2; rw [HTE.out, HSE.out]) hown3 hgrow ⟨rfl, hd5⟩ (by omega)
                have hQ6 := hQ5.push (n := L2.length + 1) (cap := cap) hgrow (hat.imp id fun e => by omega)
                clear hM5 hQ5 hd5 hown3 hgrow hat
                go_wp2
                go_roundw
                case rel => exact ⟨l + 1, _, by omega, by go_num, hQ6, by rw [map_step HQ.out, ← List.append_assoc]; exact hM6⟩
                case measure => simp [intOf]; omega
        · obtain rfl : l = n2' := by omega
          have hM9 : M1 B w1 (prodL (a.take (k + 1)) (nf bl)) u5 L2 wr := by
            rw [prodL_step HP.out]
            rw [show (nf bl).take l = nf bl from List.take_of_length_le (by rw [h22.len]; exact Nat.le_refl _)] at hM
            exact hM
          clear hM hQ
          go_wp2
          go_roundw
          case rel => exact ⟨k + 1, _, by omega, by go_num, hM9⟩
          case measure => simp [intOf]; omega
    · obtain rfl : k = n' := by omega
      have hM9 := hM
      rw [List.take_of_length_le (by rw [h1.len]; exact Nat.le_refl _)] at hM9
      obtain ⟨A5, c5, rfl⟩ := own_slice hM9.own
      have hP5 : PolyC B W0 A5 L.length c5 (prodL a (nf bl)) := ⟨L, Row.of_own hM9.own, hM9.reps⟩
      have hl5 : l1 (prodL a (nf bl)) < big := by
        rw [l1_prodL]
        exact Nat.lt_of_le_of_lt (Nat.mul_le_mul HX.out HX2.out) HLL.out
      have hn5 : L.length < sortLim := by
        have h3 := hM9.reps.length
        rw [length_prodL] at h3
        have h4 := length_nf bl
        have h5 := H2.out.len
        have h6 : a.length * (nf bl).length ≤ n * n2 := Nat.mul_le_mul (by rw [h1.len]; exact hl1) (by omega)
        omega
      have hbb := hb1.trans (hM9.below.mono hws)
      have HP5 := Lib.hid (hP5.wide hl5)
      have HL5 := Lib.hid hl5
      have hBW0 : B ≤ W0.heap.size := by have := hbb.size; omega
      clear hM9 hM hP5 hl5
      go_wp2_with fail
      refine (normalp_any B A5 L.length c5 (prodL a (nf bl)) _ hBW0 HP5.out hn5 HL5.out).mono ?_
      rintro e w9 ⟨A9, n9, c9, rfl, h9, hb9⟩
      go_wp2
      go_ret
      exact ⟨_, _, _, rfl, h9, hbb.trans (hb9.mono hbb.size)⟩
end Go.Proofs.YtnknidfpkmnncaaGreat
/- The law's awake. -/
namespace Go.Proofs.YtnknidfpkmnncaaGreat
open Go.RowKit

theorem lt_bp {n L : Nat} (h : n < 4294967296) (hL : 1 ≤ L) : n < bp L := by
  have h1 := bp_mono hL
  have h2 : bp 1 = 4294967296 := rfl
  omega
theorem lt_big {n : Nat} (h : n < 4294967296) : n < big := by
  unfold big
  exact lt_bp h (by omega)
theorem ebd_var1 : Ebd (varL 1) := by
  intro p hp j hj
  have h1 : varL 1 = [(1, (1, 0, 0, 0))] := rfl
  rw [h1, List.mem_singleton] at hp
  subst hp
  match j, hj with
  | 0, _ => simp [ex]
  | 1, _ => simp [ex]
  | 2, _ => simp [ex]
  | 3, _ => simp [ex]
def sq1 : List Tm := nf (prodL (nf (varL 1)) (nf (varL 1)))
theorem sq1_eq : sq1 = [(1, (2, 0, 0, 0))] := by decide
theorem deg_sq1 : degL 0 (nf sq1) = 2 := by decide

set_option maxRecDepth 100000 in
set_option maxHeartbeats 1000000 in
theorem awake_any (w : World) : Calls Tryz.prog 5 #[] w (ValP (.bool true) w) := by
  go_enter Tryz.func5, Tryz.ntmps5
  go_wp2_with fail
  refine (var_any w.heap.size 1 _ (Nat.le_refl _) (by omega) (by omega)).mono ?_
  rintro e w1 ⟨A1, n1, c1, rfl, h1, hb1⟩
  have hz1 := hb1.size
  go_wp2_with fail
  refine (var_any w.heap.size 1 _ hz1 (by omega) (by omega)).mono ?_
  rintro e w2 ⟨A2, n2, c2, rfl, h2, hb2⟩
  have hz2 := hb2.size
  have hl : l1 (varL 1) < big := lt_big (by decide)
  have p1 := (h1.below hb2 (Nat.le_refl _)).wide hl
  have p2 := h2.wide hl
  have e1 : n1 = 1 := by rw [← h1.len]; rfl
  have e2 : n2 = 1 := by rw [← h2.len]; rfl
  subst e1 e2
  clear h1 h2
  go_wp2_with fail
  refine (mulp_any w.heap.size A1 A2 1 c1 1 c2 (varL 1) (varL 1) _ (by omega) p1 p2 (by decide) (by decide) (by decide) hl hl (lt_big (by decide)) ebd_var1 ebd_var1).mono ?_
  rintro e w3 ⟨A3, n3, c3, rfl, h3, hb3⟩
  have hz3 := hb3.size
  have p3 : PolyC w.heap.size w3 A3 n3 c3 sq1 := h3
  have e3 : n3 = 1 := by rw [← p3.len, sq1_eq]; rfl
  subst e3
  have hl3 : l1 sq1 < big := lt_big (by rw [sq1_eq]; decide)
  have HD := Lib.hid (show Calls Tryz.prog 9 #[.slice A3 1 c3, .int .i64 1] w3 (ValP (.int .i64 2) w3) by
    have h9 := degree_any w.heap.size 0 A3 1 c3 sq1 w3 (by omega) (p3.wide hl3) (by decide) hl3 (by omega)
    rw [deg_sq1] at h9
    exact h9)
  clear h3 p3
  go_wp2_with fail
  refine HD.out.mono ?_
  rintro e w4 ⟨rfl, hb4⟩
  go_wp2
  go_ret
  exact ⟨rfl, ((hb1.trans (hb2.mono hz1)).trans (hb3.mono (by omega))).trans (hb4.mono (by omega))⟩
end Go.Proofs.YtnknidfpkmnncaaGreat
/- The law's Poly. -/
namespace Go.Proofs.YtnknidfpkmnncaaGreat
open Go.RowKit

/-- The first j exponents. -/
def part' (j : Nat) (e : Ex) : Ex := (if 0 < j then e.1 else 0, if 1 < j then e.2.1 else 0, if 2 < j then e.2.2.1 else 0, if 3 < j then e.2.2.2 else 0)
/-- A term of a drawn polynomial: its numbers' ranges. -/
def MonoOk (m : Mono) : Prop := -128 ≤ m.1 ∧ m.1 ≤ 127 ∧ ∀ j, 0 ≤ ex m.2 j ∧ ex m.2 j ≤ 255

set_option maxRecDepth 100000 in
set_option maxHeartbeats 4000000 in
theorem poly_any (B : Nat) (A : Option Addr) (n c : Nat) (L : List Mono) (w : World) (hB : B ≤ w.heap.size) (h : MonoR B w A n c L) (hn : n ≤ 1073741824) :
    Calls Tryz.prog 7 #[.slice A n c] w (PolyP B L w) := by
  obtain ⟨i0, hi0, hz0, hz1, hz2⟩ := info_parts terminfo
  have hcap := h.row.cap
  go_enter Tryz.func7, Tryz.ntmps7
  go_wp2
  go_loopw [3, 4] (fun v i wr => ∃ (k : Nat) (L1 : List TV), k ≤ n ∧ i = .int .i64 k ∧ M1 B w (L.take k) v L1 wr) (fun _ i _ => n - (intOf i).toNat)
  case atStart => exact ⟨0, [], Nat.zero_le _, rfl, by simpa using M1.start B w⟩
  case round =>
    obtain ⟨W0, rfl⟩ : ∃ x, x = wr := ⟨_, rfl⟩
    obtain ⟨k, L1, hk, rfl, hM⟩ := hrel
    by_cases hkn : k < n
    · obtain ⟨b, off, rfl, hs1, HT⟩ := h.cells (by omega)
      obtain ⟨m, hm, hc0, hcj⟩ := HT k hkn
      have hws := hM.below.size
      have hmr := h.rng m (List.mem_of_getElem? hm)
      have HMR := Lib.hid hmr
      have HM := Lib.hid hm
      have hb := hM.below
      replace hc0 := (hb.cell (by exact hs1)).trans hc0
      have HCJ := Lib.hid hcj
      have i0' : (0 : Int) ≤ (k : Int) := by omega
      have i1 : (k : Int) < (n : Int) := by omega
      have hm1 := hmr.1
      have hm2 := hmr.2.1
      have hLn : L1.length ≤ 1073741824 := by
        have h3 := hM.reps.length
        rw [List.length_take] at h3
        omega
      clear HT hcj hm hmr
      go_wp2_with fail
      refine (int_any B m.1 hm1 hm2 _).mono ?_
      rintro e w1 ⟨A1, n1, c1, rfl, hd1, hb1⟩
      have hz1' := hb1.size
      have hM1 := hM.later hb1
      clear hM
      have hME : MExp B w1 w1.heap.size (decide (m.1 < 0)) A1 n1 c1 (digs m.1.natAbs) (part' 0 m.2) (w1.alloc (.cells #[.bool (decide (m.1 < 0)), .slice A1 n1 c1, .int .i64 0, .int .i64 0, .int .i64 0, .int .i64 0] 57)) :=
        ⟨heap_alloc_new w1 _, hd1.below ((Below.refl _ _).alloc (Nat.le_refl _) _) (Nat.le_refl _), (Below.refl _ _).alloc (Nat.le_refl _) _⟩
      go_wp2
      go_loopw [6] (fun i wr => ∃ j : Nat, j ≤ 4 ∧ i = .int .i64 j ∧ MExp B w1 w1.heap.size (decide (m.1 < 0)) A1 n1 c1 (digs m.1.natAbs) (part' j m.2) wr) (fun i _ => 4 - (intOf i).toNat)
      case atStart => exact ⟨0, by omega, rfl, hME⟩
      case round =>
        obtain ⟨j, hj, rfl, hMJ⟩ := hrel
        have hbx6 := hMJ.box.six
        have hfz := hMJ.box.frozen
        obtain ⟨r0, r1, r2, r3, r4, r5⟩ := hbx6
        have hbb := hM1.below.trans (hMJ.below.mono hM1.below.size)
        rcases j with _ | _ | _ | _ | j
        · have hst := hMJ.set (by omega) (Nat.le_refl _) (hMJ.box.set0 (m.2.1))
          have hx : wr.cell? ⟨b, off + k * 5 + 1 + 0, none⟩ = some (.int .u8 m.2.1) := (hbb.cell (by exact hs1)).trans (HCJ.out 0 (by omega))
          have hr1 : 0 ≤ m.2.1 := (HMR.out.2.2 0).1
          have hr2 : m.2.1 ≤ 255 := (HMR.out.2.2 0).2
          have HST := Lib.hid hst
          clear hst
          replace r2 : wr.cell? ⟨w1.heap.size, 2, none⟩ = some (.int .i64 0) := r2
          go_wp2
          exact ⟨⟨1, by omega, rfl, HST.out⟩, by simp [intOf]⟩
        · have hst := hMJ.set (by omega) (Nat.le_refl _) (hMJ.box.set1 (m.2.2.1))
          have hx : wr.cell? ⟨b, off + k * 5 + 1 + 1, none⟩ = some (.int .u8 m.2.2.1) := (hbb.cell (by exact hs1)).trans (HCJ.out 1 (by omega))
          have hr1 : 0 ≤ m.2.2.1 := (HMR.out.2.2 1).1
          have hr2 : m.2.2.1 ≤ 255 := (HMR.out.2.2 1).2
          have HST := Lib.hid hst
          clear hst
          replace r3 : wr.cell? ⟨w1.heap.size, 3, none⟩ = some (.int .i64 0) := r3
          go_wp2
          exact ⟨⟨2, by omega, rfl, HST.out⟩, by simp [intOf]⟩
        · have hst := hMJ.set (by omega) (Nat.le_refl _) (hMJ.box.set2 (m.2.2.2.1))
          have hx : wr.cell? ⟨b, off + k * 5 + 1 + 2, none⟩ = some (.int .u8 m.2.2.2.1) := (hbb.cell (by exact hs1)).trans (HCJ.out 2 (by omega))
          have hr1 : 0 ≤ m.2.2.2.1 := (HMR.out.2.2 2).1
          have hr2 : m.2.2.2.1 ≤ 255 := (HMR.out.2.2 2).2
          have HST := Lib.hid hst
          clear hst
          replace r4 : wr.cell? ⟨w1.heap.size, 4, none⟩ = some (.int .i64 0) := r4
          go_wp2
          exact ⟨⟨3, by omega, rfl, HST.out⟩, by simp [intOf]⟩
        · have hst := hMJ.set (by omega) (Nat.le_refl _) (hMJ.box.set3 (m.2.2.2.2))
          have hx : wr.cell? ⟨b, off + k * 5 + 1 + 3, none⟩ = some (.int .u8 m.2.2.2.2) := (hbb.cell (by exact hs1)).trans (HCJ.out 3 (by omega))
          have hr1 : 0 ≤ m.2.2.2.2 := (HMR.out.2.2 3).1
          have hr2 : m.2.2.2.2 ≤ 255 := (HMR.out.2.2 3).2
          have HST := Lib.hid hst
          clear hst
          replace r5 : wr.cell? ⟨w1.heap.size, 5, none⟩ = some (.int .i64 0) := r5
          go_wp2
          exact ⟨⟨4, by omega, rfl, HST.out⟩, by simp [intOf]⟩
        · obtain rfl : j = 0 := by omega
          replace r0 : wr.cell? ⟨w1.heap.size, 0, none⟩ = some (.bool (decide (m.1 < 0))) := r0
          replace r1 : wr.cell? ⟨w1.heap.size, 1, none⟩ = some (.slice A1 n1 c1) := r1
          replace r2 : wr.cell? ⟨w1.heap.size, 2, none⟩ = some (.int .i64 m.2.1) := r2
          replace r3 : wr.cell? ⟨w1.heap.size, 3, none⟩ = some (.int .i64 m.2.2.1) := r3
          replace r4 : wr.cell? ⟨w1.heap.size, 4, none⟩ = some (.int .i64 m.2.2.2.1) := r4
          replace r5 : wr.cell? ⟨w1.heap.size, 5, none⟩ = some (.int .i64 m.2.2.2.2) := r5
          have hal : Below wr.heap.size wr (wr.alloc (.cells #[.bool (decide (m.1 < 0)), .slice A1 n1 c1, .int .i64 m.2.1, .int .i64 m.2.2.1, .int .i64 m.2.2.2.1, .int .i64 m.2.2.2.2] 57)) := (Below.refl _ _).alloc (Nat.le_refl _) _
          have hM5 := (hM1.later hMJ.below).later hal
          have hd5 := hMJ.dig.below hal (Nat.le_refl _)
          have hwr : w.heap.size ≤ wr.heap.size := hbb.size
          clear hMJ hfz hME hal hM1
          go_wp2_with (at_builtin; refine wpList_append_lies _ rfl _ _ _ rfl w.heap.size 57 i0 _ 6 64 Tryz.underlying27 hi0 hz0 hz1 hz2 rfl (by omega) u3 L1.length (flat L1) rfl hM5.own ⟨wr.heap.size, 0, none⟩ 1 1 (flat [⟨decide (m.1 < 0), A1, n1, c1, m.2⟩]) rfl rfl (World.news_of_block (cs := #[.bool (decide (m.1 < 0)), .slice A1 n1 c1, .int .i64 m.2.1, .int .i64 m.2.2.1, .int .i64 m.2.2.2.1, .int .i64 m.2.2.2.2]) (t := 57) (fr := (0, 0)) (heap_alloc_new wr _)) (flat_one _) (by omega) (by simp only [maxLen]; omega) (by omega) (by simp; omega) (wr.heap.size + 1) (by simp) ?_; intro gg cap w3 hown3 hgrow hat hlt3)
          have hM6 := hM5.push (p := m) (t := ⟨decide (m.1 < 0), A1, n1, c1, m.2⟩) rfl hown3 hgrow ⟨rfl, hd5⟩ (by omega)
          clear hM5 hd5 hown3 hgrow hat
          go_wp2
          go_roundw
          case rel => exact ⟨k + 1, _, by omega, by go_num, by rw [List.take_add_one, HM.out]; exact hM6⟩
          case measure => simp [intOf]; omega
    · obtain rfl : k = n := by omega
      have hM9 := hM
      rw [List.take_of_length_le (by rw [h.lenL]; exact Nat.le_refl _)] at hM9
      obtain ⟨A5, c5, rfl⟩ := own_slice hM9.own
      have hP5 : PolyC B W0 A5 L1.length c5 L := ⟨L1, Row.of_own hM9.own, hM9.reps⟩
      have hbb := hM9.below
      clear hM9 hM
      go_wp2
      go_ret
      exact ⟨_, _, _, rfl, hP5, hbb⟩
end Go.Proofs.YtnknidfpkmnncaaGreat
