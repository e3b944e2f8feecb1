/- integer.From, Normal, Neg, Of. -/
import Derived.Test.YtnknidfpkmnncaaB1
namespace Go.Proofs.Ytnknidfpkmnncaa
open Go.RowKit

theorem bcell {W w1 : World} (hb : Below W.heap.size W w1) : (∀ b o, b < W.heap.size → w1.cell? ⟨b, o, none⟩ = W.cell? ⟨b, o, none⟩) ∧ (∀ b o, b < W.heap.size → w1.frozen? ⟨b, o, none⟩ = W.frozen? ⟨b, o, none⟩) :=
  ⟨fun b o h => hb.cell (p := ⟨b, o, none⟩) h, fun b o h => hb.frozen (p := ⟨b, o, none⟩) h⟩

/-- A result in its own block: two stores keep digits readable. -/
theorem Dig.result {B : Nat} {w : World} {A : Option Addr} {n c : Nat} {xs : List Nat} (h : Dig B w A n c xs) {g : Nat} (hB : B ≤ g) (ht : Ty w g 46) (u v : Value) :
    Dig B ((w.setCell ⟨g, 0, none⟩ u).setCell ⟨g, 1, none⟩ v) A n c xs :=
  (h.setCell (p := ⟨g, 0, none⟩) hB ht (by decide) u).setCell (p := ⟨g, 1, none⟩) hB (ht.setCell _ _) (by decide) v

set_option maxHeartbeats 1000000 in
theorem from_any (B : Nat) (neg : Bool) (A : Option Addr) (n c : Nat) (xs : List Nat) (w : World) (hB : B ≤ w.heap.size) (h : Dig B w A n c xs) (hn : n ≤ 1099511627776) :
    Calls Try.prog 69 #[.bool neg, .slice A n c] w (IntP B (iv neg (val xs)) w) := by
  have hbw : Below w.heap.size w (w.alloc (.cells #[.bool false, .slice none 0 0] 46)) := (Below.refl _ _).alloc (Nat.le_refl _) _
  have hT := Ty.new w #[.bool false, .slice none 0 0] 46 (0, 0)
  go_enter Try.func69, Try.ntmps69
  go_wp2_with fail
  refine (normal_any B _ _ _ _ _ (h.below hbw (Nat.le_refl _)) hn).mono ?_
  rintro e w1 ⟨A1, n1, c1, rfl, h1, hb1⟩
  obtain ⟨hc1, hf1⟩ := bcell hb1
  have hz1 : w.heap.size < w1.heap.size := by have := hb1.size; simp at this; omega
  go_wp2_with fail
  refine (made_any B _ _ _ _ _ _ h1).mono ?_
  rintro e w2 ⟨A2, n2, c2, rfl, h2, hb2⟩
  obtain ⟨hc2, hf2⟩ := bcell hb2
  have hz2 : w.heap.size < w2.heap.size := by have := hb2.size; omega
  go_wp2
  refine bodyPost_ret (v := .agg #[.bool (decide (iv neg (val xs) < 0)), .slice A2 n2 c2]) (by simp [results, Try.results69, go_sem, hc2, hc1, hz1, hz2]) rfl ?_
  have hT2 := (hT.below hb1 (Nat.le_refl _)).below hb2 (Nat.le_refl _)
  refine ⟨A2, n2, c2, rfl, h2.result hB hT2 _ _, ?_⟩
  exact (((hbw.trans (hb1.mono (by simp))).trans (hb2.mono (by omega))).setCell (by simp) _).setCell (by simp) _

/-- The two blocks that a function of one Int lays at its start: its argument's box and its result. -/
theorem below_box2 (w : World) (o o' : Obj) : Below w.heap.size w ((w.alloc o).alloc o') := ((Below.refl _ _).alloc (Nat.le_refl _) _).alloc (by simp) _

set_option maxHeartbeats 1000000 in
theorem inormal_any (B : Nat) (neg : Bool) (A : Option Addr) (n c : Nat) (xs : List Nat) (w : World) (hB : B ≤ w.heap.size) (h : Dig B w A n c xs) (hn : n ≤ 1099511627776) :
    Calls Try.prog 44 #[.agg #[.bool neg, .slice A n c]] w (IntP B (iv neg (val xs)) w) := by
  have hbw := below_box2 w (.cells #[.bool neg, .slice A n c] 46) (.cells #[.bool false, .slice none 0 0] 46)
  have hT := Ty.new (w.alloc (.cells #[.bool neg, .slice A n c] 46)) #[.bool false, .slice none 0 0] 46 (0, 0)
  go_enter Try.func44, Try.ntmps44
  go_wp2_with fail
  refine (from_any B neg _ _ _ _ _ (by simp; omega) (h.below hbw (Nat.le_refl _)) hn).mono ?_
  rintro e w1 ⟨A1, n1, c1, rfl, h1, hb1⟩
  obtain ⟨hc1, hf1⟩ := bcell hb1
  have hz1 : w.heap.size + 1 < w1.heap.size := by have := hb1.size; simp at this; omega
  go_wp2
  refine bodyPost_ret (v := .agg #[.bool (decide (iv neg (val xs) < 0)), .slice A1 n1 c1]) (by simp [results, Try.results44, go_sem, hc1, hz1]) rfl ?_
  have hT2 := hT.below hb1 (Nat.le_refl _)
  simp only [World.size_alloc] at hT2
  refine ⟨A1, n1, c1, rfl, h1.result (by omega) hT2 _ _, ?_⟩
  exact ((hbw.trans (hb1.mono (by simp; omega))).setCell (by simp) _).setCell (by simp) _

set_option maxHeartbeats 1000000 in
theorem ineg_any (B : Nat) (neg : Bool) (A : Option Addr) (n c : Nat) (xs : List Nat) (w : World) (hB : B ≤ w.heap.size) (h : Dig B w A n c xs) (hn : n ≤ 1099511627776) :
    Calls Try.prog 76 #[.agg #[.bool neg, .slice A n c]] w (IntP B (-(iv neg (val xs))) w) := by
  have hbw := below_box2 w (.cells #[.bool neg, .slice A n c] 46) (.cells #[.bool false, .slice none 0 0] 46)
  have hT := Ty.new (w.alloc (.cells #[.bool neg, .slice A n c] 46)) #[.bool false, .slice none 0 0] 46 (0, 0)
  have HE := Lib.hid (show iv (!neg) (val xs) = -(iv neg (val xs)) by cases neg <;> simp [iv])
  go_enter Try.func76, Try.ntmps76
  go_wp2_with fail
  refine (from_any B (!neg) _ _ _ _ _ (by simp; omega) (h.below hbw (Nat.le_refl _)) hn).mono ?_
  rw [HE.out]
  generalize -(iv neg (val xs)) = z at *
  clear HE
  rintro e w1 ⟨A1, n1, c1, rfl, h1, hb1⟩
  obtain ⟨hc1, hf1⟩ := bcell hb1
  have hz1 : w.heap.size + 1 < w1.heap.size := by have := hb1.size; simp at this; omega
  go_wp2
  refine bodyPost_ret (v := .agg #[.bool (decide (z < 0)), .slice A1 n1 c1]) (by simp [results, Try.results76, go_sem, hc1, hz1]) rfl ?_
  have hT2 := hT.below hb1 (Nat.le_refl _)
  simp only [World.size_alloc] at hT2
  refine ⟨A1, n1, c1, rfl, h1.result (by omega) hT2 _ _, ?_⟩
  exact ((hbw.trans (hb1.mono (by simp; omega))).setCell (by simp) _).setCell (by simp) _

set_option maxHeartbeats 1000000 in
theorem iof_pos (B : Nat) (n : Int) (w : World) (hB : B ≤ w.heap.size) (h0 : 0 ≤ n) (h : n ≤ 9223372036854775807) :
    Calls Try.prog 29 #[.int .i64 n] w (IntP B n w) := by
  obtain ⟨m, rfl⟩ := Int.eq_ofNat_of_zero_le h0
  have hbw : Below w.heap.size w (w.alloc (.cells #[.bool false, .slice none 0 0] 46)) := (Below.refl _ _).alloc (Nat.le_refl _) _
  have hT := Ty.new w #[.bool false, .slice none 0 0] 46 (0, 0)
  have HE := Lib.hid (show iv false m = (m : Int) from rfl)
  go_enter Try.func29, Try.ntmps29
  go_wp2_with fail
  refine (of_any B m _ (by omega)).mono ?_
  rintro e w1 ⟨A1, n1, c1, rfl, h1, hb1⟩
  obtain ⟨hc1, hf1⟩ := bcell hb1
  have hz1 : w.heap.size < w1.heap.size := by have := hb1.size; simp at this; omega
  go_wp2_with fail
  refine (made_any B _ _ _ _ _ _ h1).mono ?_
  rw [HE.out]
  rintro e w2 ⟨A2, n2, c2, rfl, h2, hb2⟩
  obtain ⟨hc2, hf2⟩ := bcell hb2
  have hz2 : w.heap.size < w2.heap.size := by have := hb2.size; omega
  go_wp2
  refine bodyPost_ret (v := .agg #[.bool (decide ((m : Int) < 0)), .slice A2 n2 c2]) (by simp [results, Try.results29, go_sem, hc2, hc1, hz1, hz2]) rfl ?_
  have hT2 := (hT.below hb1 (Nat.le_refl _)).below hb2 (Nat.le_refl _)
  refine ⟨A2, n2, c2, rfl, h2.result hB hT2 _ _, ?_⟩
  exact (((hbw.trans (hb1.mono (by simp))).trans (hb2.mono (by omega))).setCell (by simp) _).setCell (by simp) _
set_option maxHeartbeats 1000000 in
theorem iof_neg (B : Nat) (n : Int) (w : World) (hB : B ≤ w.heap.size) (h0 : n < 0) (h : -9223372036854775808 ≤ n) :
    Calls Try.prog 29 #[.int .i64 n] w (IntP B n w) := by
  obtain ⟨m, hm⟩ : ∃ m : Nat, -n = m := ⟨(-n).toNat, by omega⟩
  have hbw : Below w.heap.size w (w.alloc (.cells #[.bool false, .slice none 0 0] 46)) := (Below.refl _ _).alloc (Nat.le_refl _) _
  have hT := Ty.new w #[.bool false, .slice none 0 0] 46 (0, 0)
  have HE := Lib.hid (show iv true m = n by unfold iv; simp; omega)
  have HW := Lib.hid (show IntKind.u64.wrap (-IntKind.u64.wrap n) = (m : Int) by simp [IntKind.wrap, IntKind.bits, IntKind.signed]; omega)
  have hm0 : m < 18446744073709551616 := by omega
  clear hm
  go_enter Try.func29, Try.ntmps29
  go_wp2_with fail
  rw [HW.out]
  refine (of_any B m _ hm0).mono ?_
  rintro e w1 ⟨A1, n1, c1, rfl, h1, hb1⟩
  obtain ⟨hc1, hf1⟩ := bcell hb1
  have hz1 : w.heap.size < w1.heap.size := by have := hb1.size; simp at this; omega
  go_wp2_with fail
  refine (made_any B _ _ _ _ _ _ h1).mono ?_
  rw [HE.out]
  rintro e w2 ⟨A2, n2, c2, rfl, h2, hb2⟩
  obtain ⟨hc2, hf2⟩ := bcell hb2
  have hz2 : w.heap.size < w2.heap.size := by have := hb2.size; omega
  go_wp2
  refine bodyPost_ret (v := .agg #[.bool (decide (n < 0)), .slice A2 n2 c2]) (by simp [results, Try.results29, go_sem, hc2, hc1, hz1, hz2, h0]) rfl ?_
  have hT2 := (hT.below hb1 (Nat.le_refl _)).below hb2 (Nat.le_refl _)
  refine ⟨A2, n2, c2, rfl, h2.result hB hT2 _ _, ?_⟩
  exact (((hbw.trans (hb1.mono (by simp))).trans (hb2.mono (by omega))).setCell (by simp) _).setCell (by simp) _
theorem iof_any (B : Nat) (n : Int) (w : World) (hB : B ≤ w.heap.size) (h0 : -9223372036854775808 ≤ n) (h : n ≤ 9223372036854775807) :
    Calls Try.prog 29 #[.int .i64 n] w (IntP B n w) := by
  rcases Int.lt_or_le n 0 with h1 | h1
  · exact iof_neg B n w hB h1 h0
  · exact iof_pos B n w hB h1 h
end Go.Proofs.Ytnknidfpkmnncaa
