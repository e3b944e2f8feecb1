/- CheckpolyCompare: the law's walk. -/
import Derived.Test.YtnknidfpkmnncaaD9
namespace Go.Proofs.Ytnknidfpkmnncaa
open Go.RowKit

theorem MonoR.below {B : Nat} {w w' : World} {A : Option Addr} {n c : Nat} {L : List Mono} (h : MonoR B w A n c L) {B' : Nat} (hb : Below B' w w') (hB : w.heap.size ≤ B') : MonoR B w' A n c L :=
  ⟨h.row.below (by omega) hb hB, h.lenL, h.rng⟩
theorem l1_mono {L : List Mono} (h : ∀ m ∈ L, -128 ≤ m.1 ∧ m.1 ≤ 127 ∧ ∀ j, 0 ≤ ex m.2 j ∧ ex m.2 j ≤ 255) : l1 L ≤ 128 * L.length := by
  induction L with
  | nil => simp [l1_nil]
  | cons p L ih =>
    have h1 := h p (by simp)
    have h2 := ih fun m hm => h m (List.mem_cons_of_mem _ hm)
    rw [l1_cons, List.length_cons]
    omega
theorem few4 (B : Nat) (A : Option Addr) (n c : Nat) (L : List Mono) (w : World) (h : MonoR B w A n c L) (hn : n ≤ 9223372036854775807) :
    Calls Try.prog 13 #[.slice A n c, .int .i64 4, .int .u8 2] w (FewP n 4 2 L w) :=
  few_any B A n c 4 2 L w h hn (by omega) (by omega) (by omega)
/-- A small drawn polynomial, made and normalized. -/
theorem polyn_any (B : Nat) (A : Option Addr) (n c : Nat) (L : List Mono) (w : World) (h : PolyC B w A n c L) (hB : B ≤ w.heap.size) (hn : n ≤ 4) (hL : l1 L ≤ 512) :
    Calls Try.prog 14 #[.slice A n c] w (PolyP B (nf L) w) :=
  normalp_any B A n c L w hB (h.wide (lt_big (by omega))) (by unfold sortLim; omega) (lt_big (by omega))
theorem compareC_any (B : Nat) (A A2 : Option Addr) (n c n2 c2 : Nat) (al bl : List Tm) (w : World) (hB : B ≤ w.heap.size) (h : PolyC B w A n c al) (h2 : PolyC B w A2 n2 c2 bl) (hn : n ≤ 4) (hn2 : n2 ≤ 4) (hl : l1 al ≤ 512) (hl2 : l1 bl ≤ 512) {x : Int} (hx : cmpL (nf al) (nf bl) = x) :
    Calls Try.prog 16 #[.slice A n c, .slice A2 n2 c2] w (ValP (.int .i64 x) w) := by
  have h9 := compare_any B A A2 n c n2 c2 al bl w hB (h.wide (lt_big (by omega))) (h2.wide (lt_big (by omega))) (by unfold sortLim; omega) (by unfold sortLim; omega) (lt_big (by omega)) (lt_big (by omega))
  rw [hx] at h9
  exact h9
theorem ValP.base {v : Value} {W w : World} {e : Ending} {w' : World} (h : ValP v w e w') (hb : Below W.heap.size W w) : ValP v W e w' := ⟨h.1, hb.trans (h.2.mono hb.size)⟩

set_option maxRecDepth 100000 in
set_option maxHeartbeats 4000000 in
theorem compareLaw_any (B : Nat) (A A2 A3 : Option Addr) (n c n2 c2 n3 c3 : Nat) (L L2 L3 : List Mono) (w : World) (hB : B ≤ w.heap.size) (h : MonoR B w A n c L) (h2 : MonoR B w A2 n2 c2 L2) (h3 : MonoR B w A3 n3 c3 L3)
    (hn : n ≤ 9223372036854775807) (hn2 : n2 ≤ 9223372036854775807) (hn3 : n3 ≤ 9223372036854775807) :
    Calls Try.prog 3 #[.slice A n c, .slice A2 n2 c2, .slice A3 n3 c3] w (ValP (.bool true) w) := by
  go_enter Try.func3, Try.ntmps3
  go_wp2_with fail
  refine (awake_any _).mono ?_
  rintro e w1 ⟨rfl, hb1⟩
  have hz1 := hb1.size
  go_wp2_with fail
  refine (few4 B A n c L _ (h.below hb1 (Nat.le_refl _)) (by omega)).mono ?_
  rintro e w2 ⟨⟨f1, rfl, hf1⟩, hb2⟩
  replace hb2 := hb1.trans (hb2.mono hz1)
  have HF1 := Lib.hid hf1
  clear hf1
  cases f1
  · go_wp2_with fail
    refine (awake_any _).mono ?_
    rintro e w3 ⟨rfl, hb3⟩
    go_wp2
    go_ret
    exact ⟨rfl, hb2.trans (hb3.mono hb2.size)⟩
  go_wp2_with fail
  refine (few4 B A2 n2 c2 L2 _ (h2.below hb2 (Nat.le_refl _)) (by omega)).mono ?_
  rintro e w3 ⟨⟨f2, rfl, hf2⟩, hb3⟩
  replace hb3 := hb2.trans (hb3.mono hb2.size)
  have HF2 := Lib.hid hf2
  clear hf2
  cases f2
  · go_wp2_with fail
    refine (awake_any _).mono ?_
    rintro e w4 ⟨rfl, hb4⟩
    go_wp2
    go_ret
    exact ⟨rfl, hb3.trans (hb4.mono hb3.size)⟩
  go_wp2_with fail
  refine (few4 B A3 n3 c3 L3 _ (h3.below hb3 (Nat.le_refl _)) (by omega)).mono ?_
  rintro e w4 ⟨⟨f3, rfl, hf3⟩, hb4⟩
  replace hb4 := hb3.trans (hb4.mono hb3.size)
  have HF3 := Lib.hid hf3
  clear hf3
  cases f3
  · go_wp2_with fail
    refine (awake_any _).mono ?_
    rintro e w5 ⟨rfl, hb5⟩
    go_wp2
    go_ret
    exact ⟨rfl, hb4.trans (hb5.mono hb4.size)⟩
  have hm1 : n ≤ 4 := ((HF1.out).1 (by simp)).1
  have hm2 : n2 ≤ 4 := ((HF2.out).1 (by simp)).1
  have hm3 : n3 ≤ 4 := ((HF3.out).1 (by simp)).1
  have hl1 : l1 L ≤ 512 := by have h8 := l1_mono h.rng; have h9 := h.lenL; omega
  have hl2 : l1 L2 ≤ 512 := by have h8 := l1_mono h2.rng; have h9 := h2.lenL; omega
  have hl3 : l1 L3 ≤ 512 := by have h8 := l1_mono h3.rng; have h9 := h3.lenL; omega
  have hk1 : ∀ {W : World} {A' : Option Addr} {n' c' : Nat} {al : List Tm} {L' : List Mono} {m : Nat}, PolyC B W A' n' c' al → al.length = L'.length → L'.length = m → m ≤ 4 → n' ≤ 4 := fun hp he hm h4 => by rw [← hp.len, he, hm]; exact h4
  clear HF1 HF2 HF3 hb1 hb2 hb3
  go_wp2_with fail
  refine (poly_any B A n c L _ (by have := hb4.size; omega) (h.below hb4 (Nat.le_refl _)) (by omega)).mono ?_
  rintro e v1 ⟨B1, m1, k1, rfl, p1, hq1⟩
  replace hq1 := hb4.trans (hq1.mono hb4.size)
  go_wp2_with fail
  refine (polyn_any B B1 m1 k1 L _ p1 (by have := hq1.size; omega) (hk1 p1 rfl h.lenL hm1) hl1).mono ?_
  rintro e v2 ⟨C1, r1, d1, rfl, q1, hq2⟩
  replace hq2 := hq1.trans (hq2.mono hq1.size)
  clear p1
  go_wp2_with fail
  refine (poly_any B A2 n2 c2 L2 _ (by have := hq2.size; omega) (h2.below hq2 (Nat.le_refl _)) (by omega)).mono ?_
  rintro e v3 ⟨B2, m2, k2, rfl, p2, hq3⟩
  have q1b := q1.below hq3 (Nat.le_refl _)
  replace hq3 := hq2.trans (hq3.mono hq2.size)
  go_wp2_with fail
  refine (polyn_any B B2 m2 k2 L2 _ p2 (by have := hq3.size; omega) (hk1 p2 rfl h2.lenL hm2) hl2).mono ?_
  rintro e v4 ⟨C2, r2, d2, rfl, q2, hq4⟩
  have q1c := q1b.below hq4 (Nat.le_refl _)
  replace hq4 := hq3.trans (hq4.mono hq3.size)
  clear p2 q1 q1b
  go_wp2_with fail
  refine (poly_any B A3 n3 c3 L3 _ (by have := hq4.size; omega) (h3.below hq4 (Nat.le_refl _)) (by omega)).mono ?_
  rintro e v5 ⟨B3, m3, k3, rfl, p3, hq5⟩
  have q1d := q1c.below hq5 (Nat.le_refl _)
  have q2b := q2.below hq5 (Nat.le_refl _)
  replace hq5 := hq4.trans (hq5.mono hq4.size)
  go_wp2_with fail
  refine (polyn_any B B3 m3 k3 L3 _ p3 (by have := hq5.size; omega) (hk1 p3 rfl h3.lenL hm3) hl3).mono ?_
  rintro e v6 ⟨C3, r3, d3, rfl, q3, hq6⟩
  have Q1 := q1d.below hq6 (Nat.le_refl _)
  have Q2 := q2b.below hq6 (Nat.le_refl _)
  have Q3 := q3
  replace hq6 := hq5.trans (hq6.mono hq5.size)
  clear p3 q1c q1d q2 q2b q3
  have R1 : r1 ≤ 4 := by have h8 := Q1.len; have h9 := length_nf L; have h10 := h.lenL; omega
  have R2 : r2 ≤ 4 := by have h8 := Q2.len; have h9 := length_nf L2; have h10 := h2.lenL; omega
  have R3 : r3 ≤ 4 := by have h8 := Q3.len; have h9 := length_nf L3; have h10 := h3.lenL; omega
  have U1 : l1 (nf L) ≤ 512 := Nat.le_trans (l1_nf L) hl1
  have U2 : l1 (nf L2) ≤ 512 := Nat.le_trans (l1_nf L2) hl2
  have U3 : l1 (nf L3) ≤ 512 := Nat.le_trans (l1_nf L3) hl3
  obtain ⟨x, hx⟩ : ∃ x, cmpL (nf L) (nf L2) = x := ⟨_, rfl⟩
  obtain ⟨y, hy⟩ : ∃ y, cmpL (nf L2) (nf L3) = y := ⟨_, rfl⟩
  obtain ⟨z, hz⟩ : ∃ z, cmpL (nf L) (nf L3) = z := ⟨_, rfl⟩
  have HX := Lib.hid hx
  have HY := Lib.hid hy
  have HZ := Lib.hid hz
  have HXR := Lib.hid (show x = -1 ∨ x = 0 ∨ x = 1 by rw [← HX.out]; exact cmpL_range _ _)
  have HXZ := Lib.hid (show x = y → z = x from fun e => by rw [← HZ.out, ← HX.out]; exact cmpL_trans (by rw [HX.out, HY.out]; exact e))
  have HBA := Lib.hid (show cmpL (nf L2) (nf L) = -x by rw [cmpL_neg (nf L) (nf L2), HX.out])
  have HEQ := Lib.hid (show (nf L = nf L2) ↔ x = 0 by rw [← HX.out]; exact cmpL_zero.symm)
  have HBw := Lib.hid (show B ≤ v6.heap.size by have := hq6.size; omega)
  have HHB := Lib.hid hB
  clear hx hy hz hB hz1 hk1 hq1 hq2 hq3 hq4 hq5
  have HCA := Lib.hid (show ∀ W', Below v6.heap.size v6 W' → Calls Try.prog 16 #[.slice C1 r1 d1, .slice C2 r2 d2] W' (ValP (.int .i64 x) v6) from fun W' hb => (compareC_any B C1 C2 r1 d1 r2 d2 (nf L) (nf L2) W' (Nat.le_trans HBw.out hb.size) (Q1.below hb (Nat.le_refl _)) (Q2.below hb (Nat.le_refl _)) R1 R2 U1 U2 (by rw [nf_nf, nf_nf]; exact HX.out)).mono fun e w' hp => hp.base hb)
  have HCB := Lib.hid (show ∀ W', Below v6.heap.size v6 W' → Calls Try.prog 16 #[.slice C2 r2 d2, .slice C3 r3 d3] W' (ValP (.int .i64 y) v6) from fun W' hb => (compareC_any B C2 C3 r2 d2 r3 d3 (nf L2) (nf L3) W' (Nat.le_trans HBw.out hb.size) (Q2.below hb (Nat.le_refl _)) (Q3.below hb (Nat.le_refl _)) R2 R3 U2 U3 (by rw [nf_nf, nf_nf]; exact HY.out)).mono fun e w' hp => hp.base hb)
  have HCC := Lib.hid (show ∀ W', Below v6.heap.size v6 W' → Calls Try.prog 16 #[.slice C1 r1 d1, .slice C3 r3 d3] W' (ValP (.int .i64 z) v6) from fun W' hb => (compareC_any B C1 C3 r1 d1 r3 d3 (nf L) (nf L3) W' (Nat.le_trans HBw.out hb.size) (Q1.below hb (Nat.le_refl _)) (Q3.below hb (Nat.le_refl _)) R1 R3 U1 U3 (by rw [nf_nf, nf_nf]; exact HZ.out)).mono fun e w' hp => hp.base hb)
  have HCD := Lib.hid (show ∀ W', Below v6.heap.size v6 W' → Calls Try.prog 16 #[.slice C2 r2 d2, .slice C1 r1 d1] W' (ValP (.int .i64 (-x)) v6) from fun W' hb => (compareC_any B C2 C1 r2 d2 r1 d1 (nf L2) (nf L) W' (Nat.le_trans HBw.out hb.size) (Q2.below hb (Nat.le_refl _)) (Q1.below hb (Nat.le_refl _)) R2 R1 U2 U1 (by rw [nf_nf, nf_nf]; exact HBA.out)).mono fun e w' hp => hp.base hb)
  have HCE := Lib.hid (show ∀ W', Below v6.heap.size v6 W' → Calls Try.prog 17 #[.slice C1 r1 d1, .slice C2 r2 d2] W' (ValP (.bool (decide (nf L = nf L2))) v6) from fun W' hb => (equal_any B C1 C2 r1 d1 r2 d2 (nf L) (nf L2) W' (Q1.below hb (Nat.le_refl _)) (Q2.below hb (Nat.le_refl _)) (by omega) (by omega)).mono fun e w' hp => hp.base hb)
  have HCO := Lib.hid (show ∀ W', Below v6.heap.size v6 W' → Calls Try.prog 18 #[.slice C1 r1 d1, .slice C2 r2 d2] W' (ValP (.int .i64 x) v6) from fun W' hb => (order_any B C1 C2 r1 d1 r2 d2 (nf L) (nf L2) W' (Q1.below hb (Nat.le_refl _)) (Q2.below hb (Nat.le_refl _)) (by omega) (by omega)).mono fun e w' hp => by rw [HX.out] at hp; exact hp.base hb)
  go_wp2_with fail
  refine (HCA.out _ (Below.refl _ _)).mono ?_
  rintro e w7 ⟨rfl, hbq⟩
  go_wp2_with fail
  refine (HCB.out _ hbq).mono ?_
  rintro e w8 ⟨rfl, hbq⟩
  go_wp2_with fail
  refine (HCC.out _ hbq).mono ?_
  rintro e w9 ⟨rfl, hbq⟩
  have hxn : wrap64 (-x) = -x := by have := HXR.out; unfold wrap64; omega
  have hxx : (-x != -x) = false := by simp
  go_wp2_with fail
  refine (HCD.out _ hbq).mono ?_
  rintro e w10 ⟨rfl, hbq⟩
  by_cases hE : x = 0
  · have hd : decide (nf L = nf L2) = true := decide_eq_true (HEQ.out.2 hE)
    have hx0 : (x == 0) = true := by rw [hE]; rfl
    have HE0 := Lib.hid hE
    clear hE
    go_wp2_with fail
    refine (HCE.out _ hbq).mono ?_
    rw [hd]
    rintro e w11 ⟨rfl, hbq⟩
    by_cases hxy : x = y
    · have hz9 := HXZ.out hxy
      subst hxy
      subst hz9
      have hxn2 : (z != z) = false := by simp
      have hxn3 : (z == z) = true := by simp
      go_wp2_with fail
      refine (HCO.out _ hbq).mono ?_
      rintro e w12 ⟨rfl, hbq⟩
      go_wp2_with fail
      refine (poly_any B A n c L _ (Nat.le_trans HBw.out hbq.size) (h.below (hq6.trans (hbq.mono hq6.size)) (Nat.le_refl _)) (by omega)).mono ?_
      rintro e x1 ⟨B1', m1', k1', rfl, p1, hx1⟩
      have hq7 := hbq.trans (hx1.mono hbq.size)
      go_wp2_with fail
      refine (poly_any B A2 n2 c2 L2 _ (Nat.le_trans HBw.out hq7.size) (h2.below (hq6.trans (hq7.mono hq6.size)) (Nat.le_refl _)) (by omega)).mono ?_
      rintro e x2 ⟨B2', m2', k2', rfl, p2, hx2⟩
      have p1b := p1.below hx2 (Nat.le_refl _)
      replace hq7 := hq7.trans (hx2.mono hq7.size)
      have hs1 : m1' ≤ 4 := by have h8 := p1b.len; have h9 := h.lenL; omega
      have hs2 : m2' ≤ 4 := by have h8 := p2.len; have h9 := h2.lenL; omega
      clear p1
      go_wp2_with fail
      refine (compareC_any B B1' B2' m1' k1' m2' k2' L L2 _ (Nat.le_trans HBw.out hq7.size) p1b p2 hs1 hs2 hl1 hl2 HX.out).mono ?_
      rintro e x3 ⟨rfl, hx3⟩
      go_wp2
      go_ret
      exact ⟨by first | rfl | simp, hq6.trans ((hq7.trans (hx3.mono hq7.size)).mono hq6.size)⟩
    · have hxy2 : (x == y) = false := by rw [beq_eq_false_iff_ne]; exact hxy
      have hxn2 : (x != x) = false := by simp
      have hxn3 : (x == x) = true := by simp
      go_wp2_with fail
      refine (HCO.out _ hbq).mono ?_
      rintro e w12 ⟨rfl, hbq⟩
      go_wp2_with fail
      refine (poly_any B A n c L _ (Nat.le_trans HBw.out hbq.size) (h.below (hq6.trans (hbq.mono hq6.size)) (Nat.le_refl _)) (by omega)).mono ?_
      rintro e x1 ⟨B1', m1', k1', rfl, p1, hx1⟩
      have hq7 := hbq.trans (hx1.mono hbq.size)
      go_wp2_with fail
      refine (poly_any B A2 n2 c2 L2 _ (Nat.le_trans HBw.out hq7.size) (h2.below (hq6.trans (hq7.mono hq6.size)) (Nat.le_refl _)) (by omega)).mono ?_
      rintro e x2 ⟨B2', m2', k2', rfl, p2, hx2⟩
      have p1b := p1.below hx2 (Nat.le_refl _)
      replace hq7 := hq7.trans (hx2.mono hq7.size)
      have hs1 : m1' ≤ 4 := by have h8 := p1b.len; have h9 := h.lenL; omega
      have hs2 : m2' ≤ 4 := by have h8 := p2.len; have h9 := h2.lenL; omega
      clear p1
      go_wp2_with fail
      refine (compareC_any B B1' B2' m1' k1' m2' k2' L L2 _ (Nat.le_trans HBw.out hq7.size) p1b p2 hs1 hs2 hl1 hl2 HX.out).mono ?_
      rintro e x3 ⟨rfl, hx3⟩
      go_wp2
      go_ret
      exact ⟨by first | rfl | simp, hq6.trans ((hq7.trans (hx3.mono hq7.size)).mono hq6.size)⟩
  · have hd : decide (nf L = nf L2) = false := decide_eq_false (fun e => hE (HEQ.out.1 e))
    have hx0 : (x == 0) = false := by rw [beq_eq_false_iff_ne]; exact hE
    have HE0 := Lib.hid hE
    clear hE
    go_wp2_with fail
    refine (HCE.out _ hbq).mono ?_
    rw [hd]
    rintro e w11 ⟨rfl, hbq⟩
    by_cases hxy : x = y
    · have hz9 := HXZ.out hxy
      subst hxy
      subst hz9
      have hxn2 : (z != z) = false := by simp
      have hxn3 : (z == z) = true := by simp
      go_wp2_with fail
      refine (HCO.out _ hbq).mono ?_
      rintro e w12 ⟨rfl, hbq⟩
      go_wp2_with fail
      refine (poly_any B A n c L _ (Nat.le_trans HBw.out hbq.size) (h.below (hq6.trans (hbq.mono hq6.size)) (Nat.le_refl _)) (by omega)).mono ?_
      rintro e x1 ⟨B1', m1', k1', rfl, p1, hx1⟩
      have hq7 := hbq.trans (hx1.mono hbq.size)
      go_wp2_with fail
      refine (poly_any B A2 n2 c2 L2 _ (Nat.le_trans HBw.out hq7.size) (h2.below (hq6.trans (hq7.mono hq6.size)) (Nat.le_refl _)) (by omega)).mono ?_
      rintro e x2 ⟨B2', m2', k2', rfl, p2, hx2⟩
      have p1b := p1.below hx2 (Nat.le_refl _)
      replace hq7 := hq7.trans (hx2.mono hq7.size)
      have hs1 : m1' ≤ 4 := by have h8 := p1b.len; have h9 := h.lenL; omega
      have hs2 : m2' ≤ 4 := by have h8 := p2.len; have h9 := h2.lenL; omega
      clear p1
      go_wp2_with fail
      refine (compareC_any B B1' B2' m1' k1' m2' k2' L L2 _ (Nat.le_trans HBw.out hq7.size) p1b p2 hs1 hs2 hl1 hl2 HX.out).mono ?_
      rintro e x3 ⟨rfl, hx3⟩
      go_wp2
      go_ret
      exact ⟨by first | rfl | simp, hq6.trans ((hq7.trans (hx3.mono hq7.size)).mono hq6.size)⟩
    · have hxy2 : (x == y) = false := by rw [beq_eq_false_iff_ne]; exact hxy
      have hxn2 : (x != x) = false := by simp
      have hxn3 : (x == x) = true := by simp
      go_wp2_with fail
      refine (HCO.out _ hbq).mono ?_
      rintro e w12 ⟨rfl, hbq⟩
      go_wp2_with fail
      refine (poly_any B A n c L _ (Nat.le_trans HBw.out hbq.size) (h.below (hq6.trans (hbq.mono hq6.size)) (Nat.le_refl _)) (by omega)).mono ?_
      rintro e x1 ⟨B1', m1', k1', rfl, p1, hx1⟩
      have hq7 := hbq.trans (hx1.mono hbq.size)
      go_wp2_with fail
      refine (poly_any B A2 n2 c2 L2 _ (Nat.le_trans HBw.out hq7.size) (h2.below (hq6.trans (hq7.mono hq6.size)) (Nat.le_refl _)) (by omega)).mono ?_
      rintro e x2 ⟨B2', m2', k2', rfl, p2, hx2⟩
      have p1b := p1.below hx2 (Nat.le_refl _)
      replace hq7 := hq7.trans (hx2.mono hq7.size)
      have hs1 : m1' ≤ 4 := by have h8 := p1b.len; have h9 := h.lenL; omega
      have hs2 : m2' ≤ 4 := by have h8 := p2.len; have h9 := h2.lenL; omega
      clear p1
      go_wp2_with fail
      refine (compareC_any B B1' B2' m1' k1' m2' k2' L L2 _ (Nat.le_trans HBw.out hq7.size) p1b p2 hs1 hs2 hl1 hl2 HX.out).mono ?_
      rintro e x3 ⟨rfl, hx3⟩
      go_wp2
      go_ret
      exact ⟨by first | rfl | simp, hq6.trans ((hq7.trans (hx3.mono hq7.size)).mono hq6.size)⟩
end Go.Proofs.Ytnknidfpkmnncaa
