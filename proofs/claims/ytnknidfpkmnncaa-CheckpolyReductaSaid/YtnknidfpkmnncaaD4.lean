/- checkpoly.Mul. -/
import Derived.Test.YtnknidfpkmnncaaD3
namespace Go.Proofs.Ytnknidfpkmnncaa
open Go.RowKit

def addE (e f : Ex) : Ex := (e.1 + f.1, e.2.1 + f.2.1, e.2.2.1 + f.2.2.1, e.2.2.2 + f.2.2.2)
def mulT (p q : Tm) : Tm := (p.1 * q.1, addE p.2 q.2)
/-- All products of a term of a with a term of b. -/
def prodL (a b : List Tm) : List Tm := a.flatMap fun p => b.map (mulT p)
/-- The exponents lie in a range in which sums don't overflow. -/
def Ebd (al : List Tm) : Prop := ∀ p ∈ al, ∀ j, j < 4 → ex p.2 j ≤ 1152921504606846976
theorem prodL_step {a b : List Tm} {k : Nat} {p : Tm} (h : a[k]? = some p) : prodL (a.take (k + 1)) b = prodL (a.take k) b ++ b.map (mulT p) := by
  unfold prodL
  rw [List.take_add_one, h]
  simp
theorem map_step {b : List Tm} {k : Nat} {p q : Tm} (h : b[k]? = some q) : (b.take (k + 1)).map (mulT p) = (b.take k).map (mulT p) ++ [mulT p q] := by
  rw [List.take_add_one, h]
  simp
theorem l1_map (p : Tm) (b : List Tm) : l1 (b.map (mulT p)) = p.1.natAbs * l1 b := by
  induction b with
  | nil => rfl
  | cons q b ih => rw [List.map_cons, l1_cons, ih, l1_cons, Nat.mul_add]; simp [mulT, Int.natAbs_mul]
theorem l1_prodL (a b : List Tm) : l1 (prodL a b) = l1 a * l1 b := by
  induction a with
  | nil => simp [prodL, l1_nil]
  | cons p a ih =>
    show l1 (b.map (mulT p) ++ prodL a b) = _
    rw [l1_append, ih, l1_map, l1_cons, Nat.add_mul]
theorem length_prodL (a b : List Tm) : (prodL a b).length = a.length * b.length := by
  induction a with
  | nil => simp [prodL]
  | cons p a ih =>
    show (b.map (mulT p) ++ prodL a b).length = _
    rw [List.length_append, ih, List.length_map, List.length_cons, Nat.add_mul]
    omega
theorem mem_foldr_ins {al : List Tm} {r : Tm} (h : r ∈ al.foldr ins []) : ∃ p ∈ al, r.2 = p.2 := by
  induction al generalizing r with
  | nil => simp at h
  | cons p al ih =>
    rcases mem_ins h with h1 | ⟨q, hq, h1⟩
    · exact ⟨p, by simp, h1⟩
    · obtain ⟨s, hs, h2⟩ := ih hq
      exact ⟨s, by simp [hs], h1.trans h2⟩
theorem mem_nf {al : List Tm} {r : Tm} (h : r ∈ nf al) : ∃ p ∈ al, r.2 = p.2 := by
  obtain ⟨p, hp, h1⟩ := mem_foldr_ins h
  exact ⟨p, (List.mem_filter.1 hp).1, h1⟩
theorem Ebd.nf {al : List Tm} (h : Ebd al) : Ebd (nf al) := fun r hr => by
  obtain ⟨p, hp, h1⟩ := mem_nf hr
  rw [h1]
  exact h p hp

/-- The state of Mul's loops: the row v bears the products so far. -/
structure M1 (B : Nat) (w : World) (pl : List Tm) (v : Value) (L : List TV) (wr : World) : Prop where
  own : wr.ownsRow w.heap.size 80 6 v L.length (flat L)
  reps : Reps (CoefC B wr) L pl
  below : Below w.heap.size w wr
theorem M1.start (B : Nat) (w : World) : M1 B w [] (.slice none 0 0) [] w :=
  ⟨World.ownsRow_nil _ _ _ _, trivial, Below.refl _ _⟩
theorem M1.later {B : Nat} {w : World} {pl : List Tm} {v : Value} {L : List TV} {wr w1 : World} (h : M1 B w pl v L wr) (hb : Below wr.heap.size wr w1) : M1 B w pl v L w1 :=
  ⟨own_below h.own hb, h.reps.mono fun t z _ hr => hr.below hb (Nat.le_refl _), h.below.trans (hb.mono h.below.size)⟩
theorem M1.push {B : Nat} {w : World} {pl : List Tm} {v : Value} {L : List TV} {wr w3 : World} {p : Tm} {t : TV} {g cap : Nat} (h : M1 B w pl v L wr) (he : t.e = p.2)
    (hown : w3.ownsRow w.heap.size 80 6 (.slice (some ⟨g, 0, none⟩) (L.length + 1) cap) (L.length + 1) (flat L ++ flat [t])) (hg : wr.grownBy w3 v.ownBlock)
    (hd : CoefC B wr t p.1) (hB : B ≤ w.heap.size) : M1 B w (pl ++ [p]) (.slice (some ⟨g, 0, none⟩) (L.length + 1) cap) (L ++ [t]) w3 := by
  have hne : 109 ≠ 80 := by decide
  refine ⟨by rw [List.length_append, flat_append]; exact hown, ?_, h.below.grown hg h.below.size (fun k hk => own_base h.own k hk)⟩
  exact (h.reps.mono fun t z _ hr => hr.grown h.own hg hB hne).append (Reps.one (z := p.1) he (hd.grown h.own hg hB hne))

/-- Six zero cells, not frozen. -/
abbrev Zero6 (w' : World) (H : Nat) : Prop :=
  w'.cell? ⟨H, 0, none⟩ = some (.bool false) ∧ w'.cell? ⟨H, 1, none⟩ = some (.slice none 0 0) ∧ w'.cell? ⟨H, 2, none⟩ = some (.int .i64 0) ∧ w'.cell? ⟨H, 3, none⟩ = some (.int .i64 0) ∧ w'.cell? ⟨H, 4, none⟩ = some (.int .i64 0) ∧ w'.cell? ⟨H, 5, none⟩ = some (.int .i64 0) ∧
  w'.frozen? ⟨H, 0, none⟩ = false ∧ w'.frozen? ⟨H, 1, none⟩ = false ∧ w'.frozen? ⟨H, 2, none⟩ = false ∧ w'.frozen? ⟨H, 3, none⟩ = false ∧ w'.frozen? ⟨H, 4, none⟩ = false ∧ w'.frozen? ⟨H, 5, none⟩ = false
theorem zero6_box (W : World) {w3 : World} (h : Below (W.alloc (.cells #[.bool false, .slice none 0 0, .int .i64 0, .int .i64 0, .int .i64 0, .int .i64 0] 80)).heap.size (W.alloc (.cells #[.bool false, .slice none 0 0, .int .i64 0, .int .i64 0, .int .i64 0, .int .i64 0] 80)) w3) : Zero6 w3 W.heap.size := by
  have hT := (Terms.box W ⟨false, none, 0, 0, (0, 0, 0, 0)⟩).below h
  obtain ⟨c0, c1, c2, c3, c4, c5⟩ := hT.six (i := 0) rfl
  simp only [Nat.zero_mul, Nat.zero_add] at c0 c1 c2 c3 c4 c5
  have hf := hT.frozen
  exact ⟨c0, c1, c2, c3, c4, c5, hf 0, hf 1, hf 2, hf 3, hf 4, hf 5⟩
/-- A box of one term. -/
def TBox (w : World) (g : Nat) (b : Bool) (A : Option Addr) (n c : Nat) (e : Ex) : Prop :=
  w.heap[g]? = some (.cells #[.bool b, .slice A n c, .int .i64 e.1, .int .i64 e.2.1, .int .i64 e.2.2.1, .int .i64 e.2.2.2] 80 (0, 0))
theorem TBox.ty {w : World} {g : Nat} {b : Bool} {A : Option Addr} {n c : Nat} {e : Ex} (h : TBox w g b A n c e) : Ty w g 80 := ⟨_, _, h⟩
theorem TBox.store6 {w : World} {g : Nat} {b : Bool} {A : Option Addr} {n c : Nat} {e : Ex} (h : TBox w g b A n c e) {b' : Bool} {A' : Option Addr} {n' c' : Nat} {x0 x1 x2 x3 : Int} :
    TBox ((((((w.setCell ⟨g, 0, none⟩ (.bool b')).setCell ⟨g, 1, none⟩ (.slice A' n' c')).setCell ⟨g, 2, none⟩ (.int .i64 x0)).setCell ⟨g, 3, none⟩ (.int .i64 x1)).setCell ⟨g, 4, none⟩ (.int .i64 x2)).setCell ⟨g, 5, none⟩ (.int .i64 x3)) g b' A' n' c' (x0, x1, x2, x3) := by
  unfold TBox at *
  simp [World.setCell, Array.getElem?_modify, h]
theorem Dig.store6 {B : Nat} {w : World} {A : Option Addr} {n c : Nat} {xs : List Nat} (h : Dig B w A n c xs) {g : Nat} {b : Bool} {A1 : Option Addr} {n1 c1 : Nat} {e : Ex} (hT : TBox w g b A1 n1 c1 e) (hB : B ≤ g) {v0 v1 v2 v3 v4 v5 : Value} :
    Dig B ((((((w.setCell ⟨g, 0, none⟩ v0).setCell ⟨g, 1, none⟩ v1).setCell ⟨g, 2, none⟩ v2).setCell ⟨g, 3, none⟩ v3).setCell ⟨g, 4, none⟩ v4).setCell ⟨g, 5, none⟩ v5) A n c xs := by
  have hne : 109 ≠ 80 := by decide
  have h0 := hT.ty
  have s1 := h.setCell (p := ⟨g, 0, none⟩) hB h0 hne v0
  have t1 := h0.setCell ⟨g, 0, none⟩ v0
  have s2 := s1.setCell (p := ⟨g, 1, none⟩) hB t1 hne v1
  have t2 := t1.setCell ⟨g, 1, none⟩ v1
  have s3 := s2.setCell (p := ⟨g, 2, none⟩) hB t2 hne v2
  have t3 := t2.setCell ⟨g, 2, none⟩ v2
  have s4 := s3.setCell (p := ⟨g, 3, none⟩) hB t3 hne v3
  have t4 := t3.setCell ⟨g, 3, none⟩ v3
  have s5 := s4.setCell (p := ⟨g, 4, none⟩) hB t4 hne v4
  have t5 := t4.setCell ⟨g, 4, none⟩ v4
  exact s5.setCell (p := ⟨g, 5, none⟩) hB t5 hne v5
/-- The exponents with the first j added. -/
def mix (j : Nat) (e f : Ex) : Ex := (if 0 < j then e.1 + f.1 else e.1, if 1 < j then e.2.1 + f.2.1 else e.2.1, if 2 < j then e.2.2.1 + f.2.2.1 else e.2.2.1, if 3 < j then e.2.2.2 + f.2.2.2 else e.2.2.2)
/-- The state of the loop over the exponents. -/
structure MExp (B : Nat) (W : World) (g : Nat) (b : Bool) (A : Option Addr) (n c : Nat) (xs : List Nat) (e : Ex) (wr : World) : Prop where
  box : TBox wr g b A n c e
  dig : Dig B wr A n c xs
  below : Below W.heap.size W wr
theorem TBox.six {w : World} {g : Nat} {b : Bool} {A : Option Addr} {n c : Nat} {e : Ex} (h : TBox w g b A n c e) : Held6 w g ⟨b, A, n, c, e⟩ := by
  unfold TBox at h
  unfold Held6 World.cell?
  simp [h]
theorem TBox.frozen {w : World} {g : Nat} {b : Bool} {A : Option Addr} {n c : Nat} {e : Ex} (h : TBox w g b A n c e) (i : Nat) : w.frozen? ⟨g, i, none⟩ = false := by
  unfold TBox at h
  unfold World.frozen?
  simp [h]
theorem MExp.set {B : Nat} {W : World} {g : Nat} {b : Bool} {A : Option Addr} {n c : Nat} {xs : List Nat} {e e' : Ex} {wr : World} (h : MExp B W g b A n c xs e wr) (hB : B ≤ g) (hW : W.heap.size ≤ g) {i : Nat} {v : Value} (hb : TBox (wr.setCell ⟨g, i, none⟩ v) g b A n c e') : MExp B W g b A n c xs e' (wr.setCell ⟨g, i, none⟩ v) :=
  ⟨hb, h.dig.setCell (p := ⟨g, i, none⟩) hB h.box.ty (by decide) v, h.below.setCell hW v⟩
theorem TBox.set0 {w : World} {g : Nat} {b : Bool} {A : Option Addr} {n c : Nat} {e : Ex} (h : TBox w g b A n c e) (x : Int) : TBox (w.setCell ⟨g, 2, none⟩ (.int .i64 x)) g b A n c (x, e.2.1, e.2.2.1, e.2.2.2) := by
  unfold TBox at *
  simp [World.setCell, Array.getElem?_modify, h]
theorem TBox.set1 {w : World} {g : Nat} {b : Bool} {A : Option Addr} {n c : Nat} {e : Ex} (h : TBox w g b A n c e) (x : Int) : TBox (w.setCell ⟨g, 3, none⟩ (.int .i64 x)) g b A n c (e.1, x, e.2.2.1, e.2.2.2) := by
  unfold TBox at *
  simp [World.setCell, Array.getElem?_modify, h]
theorem TBox.set2 {w : World} {g : Nat} {b : Bool} {A : Option Addr} {n c : Nat} {e : Ex} (h : TBox w g b A n c e) (x : Int) : TBox (w.setCell ⟨g, 4, none⟩ (.int .i64 x)) g b A n c (e.1, e.2.1, x, e.2.2.2) := by
  unfold TBox at *
  simp [World.setCell, Array.getElem?_modify, h]
theorem TBox.set3 {w : World} {g : Nat} {b : Bool} {A : Option Addr} {n c : Nat} {e : Ex} (h : TBox w g b A n c e) (x : Int) : TBox (w.setCell ⟨g, 5, none⟩ (.int .i64 x)) g b A n c (e.1, e.2.1, e.2.2.1, x) := by
  unfold TBox at *
  simp [World.setCell, Array.getElem?_modify, h]
/-- The world of the inner loop: all that w2 had, but the row's block, is as it was. -/
structure M2 (w2 wr : World) (v0 v : Value) : Prop where
  grown : w2.grownBy wr v0.ownBlock
  own : v.ownBlock = v0.ownBlock ∨ ∀ g, v.ownBlock = some g → w2.heap.size ≤ g
theorem M2.start (w2 : World) (v0 : Value) : M2 w2 w2 v0 v0 := ⟨World.grownBy.refl w2 _, .inl rfl⟩
theorem M2.later {w2 wr w' : World} {v0 v : Value} (h : M2 w2 wr v0 v) (hb : Below wr.heap.size wr w') : M2 w2 w' v0 v :=
  ⟨⟨hb.os.trans h.grown.os, hb.tape.trans h.grown.tape, hb.output.trans h.grown.output, Nat.le_trans h.grown.size hb.size, fun k hk hn => (hb.block k (Nat.lt_of_lt_of_le hk h.grown.size)).trans (h.grown.block k hk hn)⟩, h.own⟩
theorem M2.push {w2 wr w3 : World} {v0 v : Value} {g n cap : Nat} (h : M2 w2 wr v0 v) (hg : wr.grownBy w3 v.ownBlock) (hat : v.ownBlock = some g ∨ w2.heap.size ≤ g) : M2 w2 w3 v0 (.slice (some ⟨g, 0, none⟩) n cap) := by
  refine ⟨⟨hg.os.trans h.grown.os, hg.tape.trans h.grown.tape, hg.output.trans h.grown.output, Nat.le_trans h.grown.size hg.size, fun k hk hn => ?_⟩, ?_⟩
  · refine (hg.block k (Nat.lt_of_lt_of_le hk h.grown.size) fun e => ?_).trans (h.grown.block k hk hn)
    rcases h.own with h1 | h1
    · exact hn (e.trans h1)
    · have := h1 k e.symm
      omega
  · have hv : (Value.slice (some ⟨g, 0, none⟩) n cap).ownBlock = some g := rfl
    rw [hv]
    rcases hat with h1 | h1
    · rcases h.own with h2 | h2
      · exact .inl (h1.symm.trans h2)
      · exact .inr fun g' e => by injection e with e; subst e; exact h2 g h1
    · exact .inr fun g' e => by injection e with e; omega
theorem held4_grown {w w' : World} {row : Option Nat} {b off : Nat} {e : Ex} (h : Held4 w b off e) (hg : w.grownBy w' row) (hne : some b ≠ row) (hlt : b < w.heap.size) : Held4 w' b off e := by
  have hc : ∀ o, w'.cell? ⟨b, o, none⟩ = w.cell? ⟨b, o, none⟩ := fun o => hg.cell_far ⟨b, o, none⟩ hlt hne
  unfold Held4
  rw [hc, hc, hc, hc]
  exact h
theorem held2_grown {w w' : World} {row : Option Nat} {b off : Nat} {t : TV} (h : Held2 w b off t) (hg : w.grownBy w' row) (hne : some b ≠ row) (hlt : b < w.heap.size) : Held2 w' b off t := by
  have hc : ∀ o, w'.cell? ⟨b, o, none⟩ = w.cell? ⟨b, o, none⟩ := fun o => hg.cell_far ⟨b, o, none⟩ hlt hne
  unfold Held2
  rw [hc, hc]
  exact h
/-- What a round makes: a new box with the product of the coefficients. -/
def MulCut (B : Nat) (W : World) (z : Int) (e : Ex) (v : Value) (wx : World) : Prop :=
  ∃ g A n c, v = .pointer (some ⟨g, 0, none⟩) ∧ TBox wx g (decide (z < 0)) A n c e ∧ Dig B wx A n c (digs z.natAbs) ∧ Below W.heap.size W wx ∧ W.heap.size ≤ g

def MulA (B : Nat) (W : World) (H : Nat) (z : Int) (e : Ending) (w3 : World) : Prop :=
  ∃ A n c, e = .returned (.agg #[.bool (decide (z < 0)), .slice A n c]) ∧ Dig B w3 A n c (digs z.natAbs) ∧ Below W.heap.size W w3 ∧ H < w3.heap.size
def MulB (B : Nat) (W : World) (H : Nat) (z : Int) (e : Ending) (w3 : World) : Prop :=
  ∃ A n c, e = .returned (.agg #[.bool (decide (z < 0)), .slice A n c]) ∧ Dig B w3 A n c (digs z.natAbs) ∧ Below W.heap.size W w3 ∧ H < w3.heap.size ∧ TBox w3 W.heap.size false none 0 0 (0, 0, 0, 0) ∧ Zero6 w3 W.heap.size
theorem tbox_below (W : World) {w3 : World} (h : Below (W.alloc (.cells #[.bool false, .slice none 0 0, .int .i64 0, .int .i64 0, .int .i64 0, .int .i64 0] 80)).heap.size (W.alloc (.cells #[.bool false, .slice none 0 0, .int .i64 0, .int .i64 0, .int .i64 0, .int .i64 0] 80)) w3) : TBox w3 W.heap.size false none 0 0 (0, 0, 0, 0) := by
  unfold TBox
  rw [h.block _ (by simp)]
  exact heap_alloc_new W _
set_option maxRecDepth 100000 in
set_option maxHeartbeats 4000000 in
theorem mulp_any (B : Nat) (A A2 : Option Addr) (n c n2 c2 : Nat) (al bl : List Tm) (w : World) (hB : B ≤ w.heap.size) (h : PolyW B w A n c al) (h2 : PolyW B w A2 n2 c2 bl) (hn : n < sortLim) (hn2 : n2 < sortLim) (hnn : n * n2 < sortLim)
    (hl : l1 al < big) (hl2 : l1 bl < big) (hll : l1 al * l1 bl < big) (he : Ebd al) (he2 : Ebd bl) :
    Calls Try.prog 25 #[.slice A n c, .slice A2 n2 c2] w (PolyP B (nf (prodL (nf al) (nf bl))) w) := by
  obtain ⟨i0, hi0, hz0, hz1, hz2⟩ := info_parts terminfo
  have hnm : n ≤ 1073741824 := by unfold sortLim at hn; omega
  have hnm2 : n2 ≤ 1073741824 := by unfold sortLim at hn2; omega
  have HL2 := Lib.hid hl2
  have HE2 := Lib.hid he2.nf
  have HE1 := Lib.hid he.nf
  have H2 := Lib.hid h2
  have HX := Lib.hid (show l1 (nf al) ≤ l1 al from l1_nf al)
  have HV1 := Lib.hid (show ∀ p ∈ nf al, validE p.2 = true from fun p hp => ((nf_canon al).2 p hp).2)
  have HV2 := Lib.hid (show ∀ p ∈ nf bl, validE p.2 = true from fun p hp => ((nf_canon bl).2 p hp).2)
  have HX2 := Lib.hid (show l1 (nf bl) ≤ l1 bl from l1_nf bl)
  clear he he2 h2 hl2
  go_enter Try.func25, Try.ntmps25
  go_wp2_with fail
  refine (normalp_any B A n c al _ hB h hn hl).mono ?_
  rintro e w1 ⟨A', n', c', rfl, h1, hb1⟩
  have hl1 : n' ≤ n := by have h3 := h1.len; have h4 := length_nf al; have h5 := h.len; omega
  have hc1 := h1.cap
  have hE1 := HE1.out
  clear h
  have HLL := Lib.hid hll
  clear hll
  have HL := Lib.hid hl
  clear hl
  generalize nf al = a at *
  have hws := hb1.size
  go_wp2
  go_loopw [5, 16] (fun v i wr => ∃ (k : Nat) (L : List TV), k ≤ n' ∧ i = .int .i64 k ∧ M1 B w1 (prodL (a.take k) (nf bl)) v L wr) (fun _ i _ => n' - (intOf i).toNat)
  case atStart => exact ⟨0, [], Nat.zero_le _, rfl, by simpa [prodL] using M1.start B w1⟩
  case round =>
    obtain ⟨W0, rfl⟩ : ∃ x, x = wr := ⟨_, rfl⟩
    obtain ⟨k, L, hk, rfl, hM⟩ := hrel
    by_cases hkn : k < n'
    · obtain ⟨b, off, rfl, hs1, HT⟩ := h1.term (by omega)
      obtain ⟨t, p, hp, hte, hcf, hh2, hh4⟩ := HT k hkn
      have hb := hM.below
      have hh2' := held2_below hh2 hb hs1
      have hh4' := held4_below hh4 hb hs1
      obtain ⟨c0, c1⟩ := hh2'
      obtain ⟨d0, d1, d2, d3⟩ := hh4'
      have HP := Lib.hid hp
      have HTE := Lib.hid hte
      have hcf1 := hcf.below hb (Nat.le_refl _)
      have hgl0 := fun g hg => own_lt hM.own g hg
      have i0' : (0 : Int) ≤ (k : Int) := by omega
      have i1 : (k : Int) < (n' : Int) := by omega
      clear HT hp hte hcf hh2 hh4
      have hbx : Below W0.heap.size W0 (W0.alloc (.cells #[.bool t.neg, .slice t.A t.n t.c, .int .i64 t.e.1, .int .i64 t.e.2.1, .int .i64 t.e.2.2.1, .int .i64 t.e.2.2.2] 80)) := (Below.refl _ _).alloc (Nat.le_refl _) _
      go_wp2_with fail
      refine (normalp_new B A2 n2 c2 bl _ (by have := hb.size; simp; omega) (H2.out.below (hb1.trans ((hb.trans (hbx.mono hb.size)).mono hws)) (Nat.le_refl _)) hn2 HL2.out).mono ?_
      rintro e w2 ⟨A2', n2', c2', rfl, h22, hb2, hnew⟩
      have HNEW := Lib.hid hnew
      clear hnew
      have hl22 : n2' ≤ n2 := by have h3 := h22.len; have h4 := length_nf bl; have h5 := H2.out.len; omega
      have hc2 := h22.cap
      have hM2 := (hM.later hbx).later hb2
      have hcf2 := (hcf1.below hbx (Nat.le_refl _)).below hb2 (Nat.le_refl _)
      have hbox6 := (((Terms.box W0 t)).below hb2).six (i := 0) (t := t) rfl
      simp only [Nat.zero_mul, Nat.zero_add] at hbox6
      have hg2 : W0.heap.size < w2.heap.size := by have := hb2.size; simp at this; omega
      clear hb2 c0 c1 d0 d1 d2 d3 hcf1 hbx hM
      go_wp2
      obtain ⟨v0, rfl⟩ : ∃ x, x = u5 := ⟨_, rfl⟩
      go_loopw [5, 23] (fun v i wr => ∃ (l : Nat) (L2 : List TV), l ≤ n2' ∧ i = .int .i64 l ∧ M2 w2 wr v0 v ∧ M1 B w1 (prodL (a.take k) (nf bl) ++ ((nf bl).take l).map (mulT p)) v L2 wr) (fun _ i _ => n2' - (intOf i).toNat)
      case atStart => exact ⟨0, L, Nat.zero_le _, rfl, M2.start _ _, by simpa using hM2⟩
      case round =>
        obtain ⟨l, L2, hl, rfl, hQ, hM⟩ := hrel
        by_cases hln : l < n2'
        · obtain ⟨b2, off2, rfl, hs2, HT⟩ := h22.term (by omega)
          obtain ⟨s, q, hq, hse, hcs, hg22, hg4⟩ := HT l hln
          have hbr := hQ.grown
          have hbn : some b2 ≠ v0.ownBlock := fun e => by
            have h8 := hgl0 b2 e.symm
            have h9 := HNEW.out _ rfl
            simp at h9
            omega
          obtain ⟨c0, c1⟩ := held2_grown hg22 hbr hbn hs2
          obtain ⟨d0, d1, d2, d3⟩ := held4_grown hg4 hbr hbn hs2
          have HQ := Lib.hid hq
          have HSE := Lib.hid hse
          have hcs1 := hcs.grown hM2.own hbr (by omega) (by decide)
          have hcf3 := hcf2.grown hM2.own hbr (by omega) (by decide)
          have hpn : t.n ≤ 1099511627776 := (hcf3.wide (Nat.lt_of_le_of_lt (Nat.le_trans (l1_mem (List.mem_of_getElem? HP.out)) HX.out) HL.out)).2
          have hqn : s.n ≤ 1099511627776 := (hcs1.wide (Nat.lt_of_le_of_lt (Nat.le_trans (l1_mem (List.mem_of_getElem? HQ.out)) HX2.out) HL2.out)).2
          have j0 : (0 : Int) ≤ (l : Int) := by omega
          have j1 : (l : Int) < (n2' : Int) := by omega
          have hB6 : Held6 wr W0.heap.size t := held6_grown hbox6 hbr (fun g hg => hgl0 g hg.symm.symm) hg2
          have hgr : W0.heap.size < wr.heap.size := by have := hbr.size; omega
          have hbs : Below wr.heap.size wr (wr.alloc (.cells #[.bool s.neg, .slice s.A s.n s.c, .int .i64 s.e.1, .int .i64 s.e.2.1, .int .i64 s.e.2.2.1, .int .i64 s.e.2.2.2] 80)) := (Below.refl _ _).alloc (Nat.le_refl _) _
          clear HT hq hse hcs hg22 hg4
          have HMUL := Lib.hid (show iv t.neg (val (digs p.1.natAbs)) * iv s.neg (val (digs q.1.natAbs)) = p.1 * q.1 by rw [CoefC.eq hcf3, CoefC.eq hcs1])
          have hdt := (hcf3.2.below hbs (Nat.le_refl _))
          have hds := (hcs1.2.below hbs (Nat.le_refl _))
          have hT9 := ((Terms.box wr s)).six (i := 0) (t := s) rfl
          simp only [Nat.zero_mul, Nat.zero_add] at hT9
          have hT7 := held6_below hB6 hbs hgr
          have hM3 := hM.later hbs
          have hg9 : wr.heap.size < (wr.alloc (.cells #[.bool s.neg, .slice s.A s.n s.c, .int .i64 s.e.1, .int .i64 s.e.2.1, .int .i64 s.e.2.2.1, .int .i64 s.e.2.2.2] 80)).heap.size := by simp
          have hQ3 := hQ.later hbs
          have HQ3 := Lib.hid hQ3
          clear hQ3
          go_upto_region 8 with (fail)
          obtain ⟨W, hW⟩ : ∃ W, W = (wr.alloc (.cells #[.bool s.neg, .slice s.A s.n s.c, .int .i64 s.e.1, .int .i64 s.e.2.1, .int .i64 s.e.2.2.1, .int .i64 s.e.2.2.2] 80)) := ⟨_, rfl⟩
          rw [← hW] at hT7 hT9 hdt hds hM3 hg9 HQ3 ⊢
          clear hW hbs hM hQ hbr hB6 c0 c1 d0 d1 d2 d3 hcf3 hcs1
          have HM3 := Lib.hid hM3
          clear hM3
          have hBW : B ≤ W.heap.size := by have := HM3.out.below.size; omega
          have hg7 : W0.heap.size < W.heap.size := by omega
          have HALL := Lib.hid (show ∀ W', Below W.heap.size W W' → Calls Try.prog 28 #[.agg #[.bool t.neg, .slice t.A t.n t.c], .agg #[.bool s.neg, .slice s.A s.n s.c]] W' (IntP B (p.1 * q.1) W') from fun W' hb' => by
            have h9 := imul_any B t.neg s.neg t.A s.A t.n t.c s.n s.c (digs p.1.natAbs) (digs q.1.natAbs) W' (Nat.le_trans hBW hb'.size) (hdt.below hb' (Nat.le_refl _)) (hds.below hb' (Nat.le_refl _)) hpn hqn
            rw [HMUL.out] at h9
            exact h9)
          have HCa := Lib.hid (show Calls Try.prog 28 #[.agg #[.bool t.neg, .slice t.A t.n t.c], .agg #[.bool s.neg, .slice s.A s.n s.c]] W.drew (MulA B W W0.heap.size (p.1 * q.1)) from (HALL.out _ (Below.drew (Below.refl _ _))).mono fun e3 w3 hp => by
            obtain ⟨A3, n3, c3, he, h3, hb3⟩ := hp
            have hb4 := (Below.drew (Below.refl W.heap.size W)).trans (hb3.mono (Nat.le_refl _))
            exact ⟨A3, n3, c3, he, h3, hb4, Nat.lt_of_lt_of_le hg7 hb4.size⟩)
          have HCb := Lib.hid (show Calls Try.prog 28 #[.agg #[.bool t.neg, .slice t.A t.n t.c], .agg #[.bool s.neg, .slice s.A s.n s.c]] (W.alloc (.cells #[.bool false, .slice none 0 0, .int .i64 0, .int .i64 0, .int .i64 0, .int .i64 0] 80)).drew (MulB B W W0.heap.size (p.1 * q.1)) from (HALL.out _ (Below.drew (Below.alloc (Below.refl _ _) (Nat.le_refl _) _))).mono fun e3 w3 hp => by
            obtain ⟨A3, n3, c3, he, h3, hb3⟩ := hp
            have hb5 : Below (W.alloc (.cells #[.bool false, .slice none 0 0, .int .i64 0, .int .i64 0, .int .i64 0, .int .i64 0] 80)).heap.size (W.alloc (.cells #[.bool false, .slice none 0 0, .int .i64 0, .int .i64 0, .int .i64 0, .int .i64 0] 80)) w3 := (Below.drew (Below.refl _ _)).trans hb3
            have hb4 := (Below.alloc (Below.refl W.heap.size W) (Nat.le_refl _) _).trans (hb5.mono (by simp))
            exact ⟨A3, n3, c3, he, h3, hb4, Nat.lt_of_lt_of_le hg7 hb4.size, tbox_below W hb5, zero6_box W hb5⟩)
          have HA0 := Lib.hid (show ∀ o, Below W.heap.size W (W.alloc o).drew from fun o => Below.drew (Below.alloc (Below.refl _ _) (Nat.le_refl _) _))
          have HSC := Lib.hid (show ∀ w3 i v, Below W.heap.size W w3 → Below W.heap.size W (w3.setCell ⟨W.heap.size, i, none⟩ v) from fun w3 i v hb => hb.setCell (Nat.le_refl _) v)
          have HSS := Lib.hid (show ∀ w3, Below W.heap.size W w3 → Held6 w3 W0.heap.size t ∧ Held6 w3 wr.heap.size s from fun w3 hb => ⟨held6_below hT7 hb hg7, held6_below hT9 hb hg9⟩)
          clear HALL hT7 hT9 hdt hds HMUL
          have hbq := Below.refl W.heap.size W
          go_cut [10] (fun v wx => MulCut B W (p.1 * q.1) t.e v wx)
          case first =>
            go_region_held3 (fun w' => Held6 w' W0.heap.size t ∧ Held6 w' wr.heap.size s) (first | (with_reducible refine HSS.out _ (HSC.out _ _ _ ?_); with_reducible exact (HSC.out _ _ _ (HSC.out _ _ _ (HSC.out _ _ _ (HSC.out _ _ _ (HSC.out _ _ _ hbq)))))) | with_reducible exact HSS.out _ (Below.alloc hbq hbq.size _) | with_reducible exact HSS.out _ (HA0.out _) | with_reducible exact HSS.out _ hbq | exact HSS.out _ (Below.drew (Below.refl _ _)))
              (first
                | (go_at_call 28; (with_reducible refine HCa.out.mono ?_); rintro e3 w3 ⟨A3, n3, c3, rfl, h3, hbq, g3⟩)
                | (go_at_call 28; (with_reducible refine HCb.out.mono ?_); rintro e3 w3 ⟨A3, n3, c3, rfl, h3, hbq, g3, hTB, z0, z1, z2, z3, z4, z5, y0, y1, y2, y3, y4, y5⟩))
            · go_wp2
              go_meet
              exact ⟨w3.heap.size, A3, n3, c3, rfl, heap_alloc_new w3 _, h3.below ((Below.refl _ _).alloc (Nat.le_refl _) _) (Nat.le_refl _), hbq.alloc hbq.size _, hbq.size⟩
            · go_wp2
              go_meet
              refine ⟨W.heap.size, A3, n3, c3, rfl, hTB.store6, ?_, ?_, Nat.le_refl _⟩
              · exact h3.store6 hTB (by omega)
              · exact (((((hbq.setCell (Nat.le_refl _) _).setCell (Nat.le_refl _) _).setCell (Nat.le_refl _) _).setCell (Nat.le_refl _) _).setCell (Nat.le_refl _) _).setCell (Nat.le_refl _) _
          case rest =>
            obtain ⟨g, A3, n3, c3, rfl, hTB, hd3, hbW, hWg⟩ := hcut
            obtain ⟨q0, q1, q2, q3, q4, q5⟩ := (HSS.out _ hbW).2
            have HBT := Lib.hid (show ∀ j, j < 4 → 0 ≤ ex t.e j ∧ ex t.e j ≤ 1152921504606846976 from fun j hj => ⟨validE_iff.1 (by rw [HTE.out]; exact HV1.out p (List.mem_of_getElem? HP.out)) j hj, by rw [HTE.out]; exact hE1 p (List.mem_of_getElem? HP.out) j hj⟩)
            have HBS := Lib.hid (show ∀ j, j < 4 → 0 ≤ ex s.e j ∧ ex s.e j ≤ 1152921504606846976 from fun j hj => ⟨validE_iff.1 (by rw [HSE.out]; exact HV2.out q (List.mem_of_getElem? HQ.out)) j hj, by rw [HSE.out]; exact HE2.out q (List.mem_of_getElem? HQ.out) j hj⟩)
            have hix0 := ind0 s.e.1 s.e.2.1 s.e.2.2.1 s.e.2.2.2
            have hix1 := ind1 s.e.1 s.e.2.1 s.e.2.2.1 s.e.2.2.2
            have hix2 := ind2 s.e.1 s.e.2.1 s.e.2.2.1 s.e.2.2.2
            have hix3 := ind3 s.e.1 s.e.2.1 s.e.2.2.1 s.e.2.2.2
            have hME : MExp B W g (decide (p.1 * q.1 < 0)) A3 n3 c3 (digs (p.1 * q.1).natAbs) (mix 0 t.e s.e) wc := ⟨hTB, hd3, hbW⟩
            clear HCa HCb HA0 HSC hbq hTB hd3
            go_wp2
            clear q0 q1 q2 q3 q4 q5
            go_loopw [37] (fun i wr => ∃ j : Nat, j ≤ 4 ∧ i = .int .i64 j ∧ MExp B W g (decide (p.1 * q.1 < 0)) A3 n3 c3 (digs (p.1 * q.1).natAbs) (mix j t.e s.e) wr) (fun i _ => 4 - (intOf i).toNat)
            case atStart => exact ⟨0, by omega, rfl, hME⟩
            case round =>
              obtain ⟨j, hj, rfl, hMJ⟩ := hrel
              have hbx6 := hMJ.box.six
              have hfz := hMJ.box.frozen
              obtain ⟨r0, r1, r2, r3, r4, r5⟩ := hbx6
              rcases j with _ | _ | _ | _ | j
              · have hst := hMJ.set (by omega) hWg (hMJ.box.set0 (t.e.1 + s.e.1))
                have hb1 := HBT.out 0 (by omega)
                have hb2 := HBS.out 0 (by omega)
                have hwr : wrap64 (t.e.1 + s.e.1) = t.e.1 + s.e.1 := by simp only [ex] at hb1 hb2; unfold wrap64; omega
                have HST := Lib.hid hst
                clear hst hb1 hb2
                replace r2 : wr.cell? ⟨g, 2, none⟩ = some (.int .i64 t.e.1) := r2
                go_wp2
                exact ⟨⟨1, by omega, rfl, HST.out⟩, by simp [intOf]⟩
              · have hst := hMJ.set (by omega) hWg (hMJ.box.set1 (t.e.2.1 + s.e.2.1))
                have hb1 := HBT.out 1 (by omega)
                have hb2 := HBS.out 1 (by omega)
                have hwr : wrap64 (t.e.2.1 + s.e.2.1) = t.e.2.1 + s.e.2.1 := by simp only [ex] at hb1 hb2; unfold wrap64; omega
                have HST := Lib.hid hst
                clear hst hb1 hb2
                replace r3 : wr.cell? ⟨g, 3, none⟩ = some (.int .i64 t.e.2.1) := r3
                go_wp2
                exact ⟨⟨2, by omega, rfl, HST.out⟩, by simp [intOf]⟩
              · have hst := hMJ.set (by omega) hWg (hMJ.box.set2 (t.e.2.2.1 + s.e.2.2.1))
                have hb1 := HBT.out 2 (by omega)
                have hb2 := HBS.out 2 (by omega)
                have hwr : wrap64 (t.e.2.2.1 + s.e.2.2.1) = t.e.2.2.1 + s.e.2.2.1 := by simp only [ex] at hb1 hb2; unfold wrap64; omega
                have HST := Lib.hid hst
                clear hst hb1 hb2
                replace r4 : wr.cell? ⟨g, 4, none⟩ = some (.int .i64 t.e.2.2.1) := r4
                go_wp2
                exact ⟨⟨3, by omega, rfl, HST.out⟩, by simp [intOf]⟩
              · have hst := hMJ.set (by omega) hWg (hMJ.box.set3 (t.e.2.2.2 + s.e.2.2.2))
                have hb1 := HBT.out 3 (by omega)
                have hb2 := HBS.out 3 (by omega)
                have hwr : wrap64 (t.e.2.2.2 + s.e.2.2.2) = t.e.2.2.2 + s.e.2.2.2 := by simp only [ex] at hb1 hb2; unfold wrap64; omega
                have HST := Lib.hid hst
                clear hst hb1 hb2
                replace r5 : wr.cell? ⟨g, 5, none⟩ = some (.int .i64 t.e.2.2.2) := r5
                go_wp2
                exact ⟨⟨4, by omega, rfl, HST.out⟩, by simp [intOf]⟩
              · obtain rfl : j = 0 := by omega
                replace r0 : wr.cell? ⟨g, 0, none⟩ = some (.bool (decide (p.1 * q.1 < 0))) := r0
                replace r1 : wr.cell? ⟨g, 1, none⟩ = some (.slice A3 n3 c3) := r1
                replace r2 : wr.cell? ⟨g, 2, none⟩ = some (.int .i64 (t.e.1 + s.e.1)) := r2
                replace r3 : wr.cell? ⟨g, 3, none⟩ = some (.int .i64 (t.e.2.1 + s.e.2.1)) := r3
                replace r4 : wr.cell? ⟨g, 4, none⟩ = some (.int .i64 (t.e.2.2.1 + s.e.2.2.1)) := r4
                replace r5 : wr.cell? ⟨g, 5, none⟩ = some (.int .i64 (t.e.2.2.2 + s.e.2.2.2)) := r5
                have hal : Below wr.heap.size wr (wr.alloc (.cells #[.bool (decide (p.1 * q.1 < 0)), .slice A3 n3 c3, .int .i64 (t.e.1 + s.e.1), .int .i64 (t.e.2.1 + s.e.2.1), .int .i64 (t.e.2.2.1 + s.e.2.2.1), .int .i64 (t.e.2.2.2 + s.e.2.2.2)] 80)) := (Below.refl _ _).alloc (Nat.le_refl _) _
                have hM5 := (HM3.out.later hMJ.below).later hal
                have hQ5 := (HQ3.out.later hMJ.below).later hal
                have hd5 := hMJ.dig.below hal (Nat.le_refl _)
                have hLn : L2.length ≤ 1073741824 := by
                  have h3 := HM3.out.reps.length
                  have h4 := h22.len
                  rw [List.length_append, length_prodL, List.length_map, List.length_take, List.length_take] at h3
                  have h5 : min k a.length * (nf bl).length ≤ k * n2' := Nat.mul_le_mul (Nat.min_le_left _ _) (by omega)
                  have h6 : (k + 1) * n2' ≤ n * n2 := Nat.mul_le_mul (by omega) hl22
                  rw [Nat.add_mul, Nat.one_mul] at h6
                  unfold sortLim at hnn
                  omega
                have hw1r : w1.heap.size ≤ wr.heap.size := by have h3 := HM3.out.below.size; have h4 := hMJ.below.size; omega
                have hw2r : w2.heap.size ≤ wr.heap.size := by have h3 := HQ3.out.grown.size; have h4 := hMJ.below.size; omega
                clear hMJ hfz hix0 hix1 hix2 hix3 hME hal
                go_wp2_with (at_builtin; refine wpList_append_lies _ rfl _ _ _ rfl w1.heap.size 80 i0 _ 6 64 Try.underlying26 hi0 hz0 hz1 hz2 rfl (by omega) u5 L2.length (flat L2) rfl hM5.own ⟨wr.heap.size, 0, none⟩ 1 1 (flat [⟨decide (p.1 * q.1 < 0), A3, n3, c3, addE t.e s.e⟩]) rfl rfl (World.news_of_block (cs := #[.bool (decide (p.1 * q.1 < 0)), .slice A3 n3 c3, .int .i64 (t.e.1 + s.e.1), .int .i64 (t.e.2.1 + s.e.2.1), .int .i64 (t.e.2.2.1 + s.e.2.2.1), .int .i64 (t.e.2.2.2 + s.e.2.2.2)]) (t := 80) (fr := (0, 0)) (heap_alloc_new wr _)) (flat_one _) (by omega) (by simp only [maxLen]; omega) (by omega) (by simp; omega) (wr.heap.size + 1) (by simp) ?_; intro gg cap w3 hown3 hgrow hat hlt3)
                have hM6 := hM5.push (p := mulT p q) (t := ⟨decide (p.1 * q.1 < 0), A3, n3, c3, addE t.e s.e⟩) (by show addE t.e s.e = addE p.2 q.2; rw [HTE.out, HSE.out]) hown3 hgrow ⟨rfl, hd5⟩ (by omega)
                have hQ6 := hQ5.push (n := L2.length + 1) (cap := cap) hgrow (hat.imp id fun e => by omega)
                clear hM5 hQ5 hd5 hown3 hgrow hat
                go_wp2
                go_roundw
                case rel => exact ⟨l + 1, _, by omega, by go_num, hQ6, by rw [map_step HQ.out, ← List.append_assoc]; exact hM6⟩
                case measure => simp [intOf]; omega
        · obtain rfl : l = n2' := by omega
          have hM9 : M1 B w1 (prodL (a.take (k + 1)) (nf bl)) u5 L2 wr := by
            rw [prodL_step HP.out]
            rw [show (nf bl).take l = nf bl from List.take_of_length_le (by rw [h22.len]; exact Nat.le_refl _)] at hM
            exact hM
          clear hM hQ
          go_wp2
          go_roundw
          case rel => exact ⟨k + 1, _, by omega, by go_num, hM9⟩
          case measure => simp [intOf]; omega
    · obtain rfl : k = n' := by omega
      have hM9 := hM
      rw [List.take_of_length_le (by rw [h1.len]; exact Nat.le_refl _)] at hM9
      obtain ⟨A5, c5, rfl⟩ := own_slice hM9.own
      have hP5 : PolyC B W0 A5 L.length c5 (prodL a (nf bl)) := ⟨L, Row.of_own hM9.own, hM9.reps⟩
      have hl5 : l1 (prodL a (nf bl)) < big := by
        rw [l1_prodL]
        exact Nat.lt_of_le_of_lt (Nat.mul_le_mul HX.out HX2.out) HLL.out
      have hn5 : L.length < sortLim := by
        have h3 := hM9.reps.length
        rw [length_prodL] at h3
        have h4 := length_nf bl
        have h5 := H2.out.len
        have h6 : a.length * (nf bl).length ≤ n * n2 := Nat.mul_le_mul (by rw [h1.len]; exact hl1) (by omega)
        omega
      have hbb := hb1.trans (hM9.below.mono hws)
      have HP5 := Lib.hid (hP5.wide hl5)
      have HL5 := Lib.hid hl5
      have hBW0 : B ≤ W0.heap.size := by have := hbb.size; omega
      clear hM9 hM hP5 hl5
      go_wp2_with fail
      refine (normalp_any B A5 L.length c5 (prodL a (nf bl)) _ hBW0 HP5.out hn5 HL5.out).mono ?_
      rintro e w9 ⟨A9, n9, c9, rfl, h9, hb9⟩
      go_wp2
      go_ret
      exact ⟨_, _, _, rfl, h9, hbb.trans (hb9.mono hbb.size)⟩
end Go.Proofs.Ytnknidfpkmnncaa
