/- integer.Add. -/
import Derived.Test.YtnknidfpkmnncaaB3
namespace Go.Proofs.Ytnknidfpkmnncaa
open Go.RowKit

/-- The three blocks that a function of two Ints lays at its start: its arguments' boxes and its result. -/
def box3 (w : World) (neg neg2 : Bool) (A A2 : Option Addr) (n c n2 c2 : Nat) : World :=
  ((w.alloc (.cells #[.bool neg, .slice A n c] 46)).alloc (.cells #[.bool neg2, .slice A2 n2 c2] 46)).alloc (.cells #[.bool false, .slice none 0 0] 46)
/-- What the boxes hold, as long as nothing writes to them. -/
structure Box3 (w : World) (neg neg2 : Bool) (A A2 : Option Addr) (n c n2 c2 : Nat) (wr : World) : Prop where
  a0 : wr.cell? ⟨w.heap.size, 0, none⟩ = some (.bool neg)
  a1 : wr.cell? ⟨w.heap.size, 1, none⟩ = some (.slice A n c)
  b0 : wr.cell? ⟨w.heap.size + 1, 0, none⟩ = some (.bool neg2)
  b1 : wr.cell? ⟨w.heap.size + 1, 1, none⟩ = some (.slice A2 n2 c2)
  r0 : wr.cell? ⟨w.heap.size + 1 + 1, 0, none⟩ = some (.bool false)
  r1 : wr.cell? ⟨w.heap.size + 1 + 1, 1, none⟩ = some (.slice none 0 0)
  fr0 : wr.frozen? ⟨w.heap.size + 1 + 1, 0, none⟩ = false
  fr1 : wr.frozen? ⟨w.heap.size + 1 + 1, 1, none⟩ = false
  size : w.heap.size + 1 + 1 < wr.heap.size
  ty : Ty wr (w.heap.size + 1 + 1) 46
  below : Below w.heap.size w wr
section
variable {w wr w1 : World} {neg neg2 : Bool} {A A2 : Option Addr} {n c n2 c2 : Nat}
theorem Box3.start (w : World) (neg neg2 : Bool) (A A2 : Option Addr) (n c n2 c2 : Nat) :
    Box3 w neg neg2 A A2 n c n2 c2 (((w.alloc (.cells #[.bool neg, .slice A n c] 46)).alloc (.cells #[.bool neg2, .slice A2 n2 c2] 46)).alloc (.cells #[.bool false, .slice none 0 0] 46)) where
  a0 := by go_simp
  a1 := by go_simp
  b0 := by go_simp
  b1 := by go_simp
  r0 := by go_simp
  r1 := by go_simp
  fr0 := by go_simp
  fr1 := by go_simp
  size := by simp
  ty := by
    have := Ty.new ((w.alloc (.cells #[.bool neg, .slice A n c] 46)).alloc (.cells #[.bool neg2, .slice A2 n2 c2] 46)) #[.bool false, .slice none 0 0] 46 (0, 0)
    simpa using this
  below := (below_box2 w _ _).alloc (by simp; omega) _
theorem Box3.next (h : Box3 w neg neg2 A A2 n c n2 c2 wr) (hb : Below wr.heap.size wr w1) : Box3 w neg neg2 A A2 n c n2 c2 w1 where
  a0 := (hb.cell (by have := h.size; show w.heap.size < _; omega)).trans h.a0
  a1 := (hb.cell (by have := h.size; show w.heap.size < _; omega)).trans h.a1
  b0 := (hb.cell (by have := h.size; show w.heap.size + 1 < _; omega)).trans h.b0
  b1 := (hb.cell (by have := h.size; show w.heap.size + 1 < _; omega)).trans h.b1
  r0 := (hb.cell (by exact h.size)).trans h.r0
  r1 := (hb.cell (by exact h.size)).trans h.r1
  fr0 := (hb.frozen (by exact h.size)).trans h.fr0
  fr1 := (hb.frozen (by exact h.size)).trans h.fr1
  size := by have := hb.size; have := h.size; omega
  ty := h.ty.below hb (Nat.le_refl _)
  below := h.below.trans (hb.mono (by have := h.size; omega))
theorem Box3.drew (h : Box3 w neg neg2 A A2 n c n2 c2 wr) : Box3 w neg neg2 A A2 n c n2 c2 wr.drew := h.next ((Below.refl _ _).drew)
theorem Box3.held (h : Box3 w neg neg2 A A2 n c n2 c2 wr) : wr.cell? ⟨w.heap.size, 0, none⟩ = some (.bool neg) ∧ wr.cell? ⟨w.heap.size, 1, none⟩ = some (.slice A n c) ∧ wr.cell? ⟨w.heap.size + 1, 0, none⟩ = some (.bool neg2) ∧ wr.cell? ⟨w.heap.size + 1, 1, none⟩ = some (.slice A2 n2 c2) :=
  ⟨h.a0, h.a1, h.b0, h.b1⟩
theorem Box3.heldSet (h : Box3 w neg neg2 A A2 n c n2 c2 wr) (u v : Value) :
    ((wr.setCell ⟨w.heap.size + 1 + 1, 0, none⟩ u).setCell ⟨w.heap.size + 1 + 1, 1, none⟩ v).cell? ⟨w.heap.size, 0, none⟩ = some (.bool neg) ∧ ((wr.setCell ⟨w.heap.size + 1 + 1, 0, none⟩ u).setCell ⟨w.heap.size + 1 + 1, 1, none⟩ v).cell? ⟨w.heap.size, 1, none⟩ = some (.slice A n c) ∧
    ((wr.setCell ⟨w.heap.size + 1 + 1, 0, none⟩ u).setCell ⟨w.heap.size + 1 + 1, 1, none⟩ v).cell? ⟨w.heap.size + 1, 0, none⟩ = some (.bool neg2) ∧ ((wr.setCell ⟨w.heap.size + 1 + 1, 0, none⟩ u).setCell ⟨w.heap.size + 1 + 1, 1, none⟩ v).cell? ⟨w.heap.size + 1, 1, none⟩ = some (.slice A2 n2 c2) := by
  have e : ∀ (W : World) (p q : Addr) (x : Value), p.block ≠ q.block → (W.setCell p x).cell? q = W.cell? q := fun W p q x hne => World.cell?_setCell_other W p q x (fun he => hne (by rw [he]))
  refine ⟨?_, ?_, ?_, ?_⟩ <;> rw [e _ _ _ _ (by first | (simp; done) | (simp; omega)), e _ _ _ _ (by first | (simp; done) | (simp; omega))]
  · exact h.a0
  · exact h.a1
  · exact h.b0
  · exact h.b1
/-- The result's two stores. -/
theorem Box3.done {B : Nat} {A' : Option Addr} {n' c' : Nat} {z : Int} (h : Box3 w neg neg2 A A2 n c n2 c2 wr) (hB : B ≤ w.heap.size) (hd : Dig B wr A' n' c' (digs z.natAbs)) :
    IntP B z w (.returned (.agg #[.bool (decide (z < 0)), .slice A' n' c'])) ((wr.setCell ⟨w.heap.size + 1 + 1, 0, none⟩ (.bool (decide (z < 0)))).setCell ⟨w.heap.size + 1 + 1, 1, none⟩ (.slice A' n' c')) :=
  ⟨A', n', c', rfl, hd.result (by omega) h.ty _ _, (h.below.setCell (by show w.heap.size ≤ w.heap.size + 1 + 1; omega) _).setCell (by show w.heap.size ≤ w.heap.size + 1 + 1; omega) _⟩
end

set_option maxRecDepth 100000 in
set_option maxHeartbeats 2000000 in
theorem iadd_same (B : Nat) (neg : Bool) (A A2 : Option Addr) (n c n2 c2 : Nat) (xs ys : List Nat) (w : World) (hB : B ≤ w.heap.size) (hx : Dig B w A n c xs) (hy : Dig B w A2 n2 c2 ys) (hn : n ≤ 1099511627776) (hn2 : n2 ≤ 1099511627776) :
    Calls Try.prog 48 #[.agg #[.bool neg, .slice A n c], .agg #[.bool neg, .slice A2 n2 c2]] w (IntP B (iv neg (val xs) + iv neg (val ys)) w) := by
  have hb := Box3.start w neg neg A A2 n c n2 c2
  have hbd := hb.drew
  have hx1 := (hx.below hb.below (Nat.le_refl _)).drew
  have hy1 := (hy.below hb.below (Nat.le_refl _)).drew
  have HE := Lib.hid (show iv neg (val xs + val ys) = iv neg (val xs) + iv neg (val ys) by cases neg <;> simp [iv] <;> omega)
  clear hb
  go_enter Try.func48, Try.ntmps48
  go_wp2_with fail
  go_region_held3 (fun w' => w'.cell? ⟨w.heap.size, 0, none⟩ = some (.bool neg) ∧ w'.cell? ⟨w.heap.size, 1, none⟩ = some (.slice A n c) ∧ w'.cell? ⟨w.heap.size + 1, 0, none⟩ = some (.bool neg) ∧ w'.cell? ⟨w.heap.size + 1, 1, none⟩ = some (.slice A2 n2 c2))
    (first | exact hbd.held | exact hb1.held | exact hb2.held | exact hb2.heldSet _ _)
    (first
      | (go_at_call 71; ((with_reducible refine (add_any B A A2 n c n2 c2 xs ys _ hx1 hy1 hn hn2).mono ?_); rintro e w1 ⟨A1, n1, c1, rfl, h1, hbw1⟩; have hb1 := hbd.next hbw1))
      | (go_at_call 57; ((with_reducible refine (made_any B neg A1 n1 c1 _ _ h1).mono ?_); rw [HE.out]; rintro e w2 ⟨A3, n3, c3, rfl, h2, hbw2⟩; have hb2 := hb1.next hbw2; have hr0 := hb2.r0; have hr1 := hb2.r1; have hf0 := hb2.fr0; have hf1 := hb2.fr1)))
  have hfin := hb2.done hB h2
  have HF := Lib.hid hfin
  clear hfin hb1 hb2 hbd hbw1 hbw2 hx1 hy1 h1 h2
  generalize iv neg (val xs) + iv neg (val ys) = z at *
  go_wp2
  exact bodyPost_ret (v := .agg #[.bool (decide (z < 0)), .slice A3 n3 c3]) (by simp [results, Try.results48, go_sem, hr0, hr1]) rfl HF.out

set_option maxRecDepth 100000 in
set_option maxHeartbeats 2000000 in
theorem iadd_diff_ge (B : Nat) (neg : Bool) (A A2 : Option Addr) (n c n2 c2 : Nat) (xs ys : List Nat) (w : World) (hB : B ≤ w.heap.size) (hx : Dig B w A n c xs) (hy : Dig B w A2 n2 c2 ys) (hn : n ≤ 1099511627776) (hn2 : n2 ≤ 1099511627776) (hge : val ys ≤ val xs) :
    Calls Try.prog 48 #[.agg #[.bool neg, .slice A n c], .agg #[.bool (!neg), .slice A2 n2 c2]] w (IntP B (iv neg (val xs) + iv (!neg) (val ys)) w) := by
  have hb := Box3.start w neg (!neg) A A2 n c n2 c2
  have hx1 := (hx.below hb.below (Nat.le_refl _))
  have hy1 := (hy.below hb.below (Nat.le_refl _))
  have HE := Lib.hid (show iv neg (val xs - val ys) = iv neg (val xs) + iv (!neg) (val ys) by cases neg <;> simp [iv] <;> omega)
  have HA := Lib.hid (sub_yes B _ _ _ _ _ _ _ _ _ hx1 hy1 hn hn2 hge)
  clear hge
  have hne : (neg == !neg) = false := by cases neg <;> rfl
  go_enter Try.func48, Try.ntmps48
  go_wp2_with fail
  refine HA.out.mono ?_
  rintro e w1 ⟨A1, n1, c1, rfl, h1, hbw1⟩
  have hb1 := hb.next hbw1
  have ha0 := hb1.a0
  clear hbw1 hb hx1 hy1 HA
  go_wp2_with fail
  refine (made_any B neg A1 n1 c1 _ _ h1).mono ?_
  rw [HE.out]
  rintro e w2 ⟨A3, n3, c3, rfl, h2, hbw2⟩
  have hb2 := hb1.next hbw2
  have hr0 := hb2.r0; have hr1 := hb2.r1; have hf0 := hb2.fr0; have hf1 := hb2.fr1
  have hfin := hb2.done hB h2
  have HF := Lib.hid hfin
  clear hfin hb1 hb2 hbw2 h1 h2 ha0
  generalize iv neg (val xs) + iv (!neg) (val ys) = z at *
  go_wp2
  exact bodyPost_ret (v := .agg #[.bool (decide (z < 0)), .slice A3 n3 c3]) (by simp [results, Try.results48, go_sem, hr0, hr1]) rfl HF.out

set_option maxRecDepth 100000 in
set_option maxHeartbeats 2000000 in
theorem iadd_diff_lt (B : Nat) (neg : Bool) (A A2 : Option Addr) (n c n2 c2 : Nat) (xs ys : List Nat) (w : World) (hB : B ≤ w.heap.size) (hx : Dig B w A n c xs) (hy : Dig B w A2 n2 c2 ys) (hn : n ≤ 1099511627776) (hn2 : n2 ≤ 1099511627776) (hlt : val xs < val ys) :
    Calls Try.prog 48 #[.agg #[.bool neg, .slice A n c], .agg #[.bool (!neg), .slice A2 n2 c2]] w (IntP B (iv neg (val xs) + iv (!neg) (val ys)) w) := by
  have hb := Box3.start w neg (!neg) A A2 n c n2 c2
  have hx1 := (hx.below hb.below (Nat.le_refl _))
  have hy1 := (hy.below hb.below (Nat.le_refl _))
  have HE := Lib.hid (show iv (!neg) (val ys - val xs) = iv neg (val xs) + iv (!neg) (val ys) by cases neg <;> simp [iv] <;> omega)
  have HA := Lib.hid (sub_no B _ _ _ _ _ _ _ _ _ hx1 hy1 hlt)
  have hle : val xs ≤ val ys := by omega
  have HL := Lib.hid hle
  clear hlt hle
  have hne : (neg == !neg) = false := by cases neg <;> rfl
  go_enter Try.func48, Try.ntmps48
  go_wp2_with fail
  refine HA.out.mono ?_
  rintro e w0 ⟨rfl, hd0⟩
  have hbw0 := hd0.below (((w.alloc (.cells #[.bool neg, .slice A n c] 46)).alloc (.cells #[.bool (!neg), .slice A2 n2 c2] 46)).alloc (.cells #[.bool false, .slice none 0 0] 46)).heap.size
  have hb0 := hb.next hbw0
  have HA2 := Lib.hid (sub_yes B _ _ _ _ _ _ _ _ _ (hy1.below hbw0 (Nat.le_refl _)) (hx1.below hbw0 (Nat.le_refl _)) hn2 hn HL.out)
  have k1 := hb0.a1
  have k2 := hb0.b1
  clear hbw0 hb hx1 hy1 HA hd0
  go_wp2_with fail
  refine HA2.out.mono ?_
  rintro e w1 ⟨A1, n1, c1, rfl, h1, hbw1⟩
  have hb1 := hb0.next hbw1
  have ha0 := hb1.b0
  clear hbw1 HA2 k1 k2 hb0
  go_wp2_with fail
  refine (made_any B (!neg) A1 n1 c1 _ _ h1).mono ?_
  rw [HE.out]
  rintro e w2 ⟨A3, n3, c3, rfl, h2, hbw2⟩
  have hb2 := hb1.next hbw2
  have hr0 := hb2.r0; have hr1 := hb2.r1; have hf0 := hb2.fr0; have hf1 := hb2.fr1
  have hfin := hb2.done hB h2
  have HF := Lib.hid hfin
  clear hfin hb1 hb2 hbw2 h1 h2 ha0
  generalize iv neg (val xs) + iv (!neg) (val ys) = z at *
  go_wp2
  exact bodyPost_ret (v := .agg #[.bool (decide (z < 0)), .slice A3 n3 c3]) (by simp [results, Try.results48, go_sem, hr0, hr1]) rfl HF.out

theorem iadd_any (B : Nat) (neg neg2 : Bool) (A A2 : Option Addr) (n c n2 c2 : Nat) (xs ys : List Nat) (w : World) (hB : B ≤ w.heap.size) (hx : Dig B w A n c xs) (hy : Dig B w A2 n2 c2 ys) (hn : n ≤ 1099511627776) (hn2 : n2 ≤ 1099511627776) :
    Calls Try.prog 48 #[.agg #[.bool neg, .slice A n c], .agg #[.bool neg2, .slice A2 n2 c2]] w (IntP B (iv neg (val xs) + iv neg2 (val ys)) w) := by
  by_cases h : neg2 = neg
  · subst h; exact iadd_same B _ _ _ _ _ _ _ _ _ _ hB hx hy hn hn2
  · have h2 : neg2 = !neg := by cases neg <;> cases neg2 <;> simp_all
    subst h2
    rcases Nat.lt_or_ge (val xs) (val ys) with h3 | h3
    · exact iadd_diff_lt B _ _ _ _ _ _ _ _ _ _ hB hx hy hn hn2 h3
    · exact iadd_diff_ge B _ _ _ _ _ _ _ _ _ _ hB hx hy hn hn2 h3
end Go.Proofs.Ytnknidfpkmnncaa
