/- The law's awake. -/
import Derived.Test.YtnknidfpkmnncaaD4
namespace Go.Proofs.Ytnknidfpkmnncaa
open Go.RowKit

theorem lt_bp {n L : Nat} (h : n < 4294967296) (hL : 1 ≤ L) : n < bp L := by
  have h1 := bp_mono hL
  have h2 : bp 1 = 4294967296 := rfl
  omega
theorem lt_big {n : Nat} (h : n < 4294967296) : n < big := by
  unfold big
  exact lt_bp h (by omega)
theorem ebd_var1 : Ebd (varL 1) := by
  intro p hp j hj
  have h1 : varL 1 = [(1, (1, 0, 0, 0))] := rfl
  rw [h1, List.mem_singleton] at hp
  subst hp
  match j, hj with
  | 0, _ => simp [ex]
  | 1, _ => simp [ex]
  | 2, _ => simp [ex]
  | 3, _ => simp [ex]
def sq1 : List Tm := nf (prodL (nf (varL 1)) (nf (varL 1)))
theorem sq1_eq : sq1 = [(1, (2, 0, 0, 0))] := by decide
theorem deg_sq1 : degL 0 (nf sq1) = 2 := by decide

set_option maxRecDepth 100000 in
set_option maxHeartbeats 1000000 in
theorem awake_any (w : World) : Calls Try.prog 12 #[] w (ValP (.bool true) w) := by
  go_enter Try.func12, Try.ntmps12
  go_wp2_with fail
  refine (var_any w.heap.size 1 _ (Nat.le_refl _) (by omega) (by omega)).mono ?_
  rintro e w1 ⟨A1, n1, c1, rfl, h1, hb1⟩
  have hz1 := hb1.size
  go_wp2_with fail
  refine (var_any w.heap.size 1 _ hz1 (by omega) (by omega)).mono ?_
  rintro e w2 ⟨A2, n2, c2, rfl, h2, hb2⟩
  have hz2 := hb2.size
  have hl : l1 (varL 1) < big := lt_big (by decide)
  have p1 := (h1.below hb2 (Nat.le_refl _)).wide hl
  have p2 := h2.wide hl
  have e1 : n1 = 1 := by rw [← h1.len]; rfl
  have e2 : n2 = 1 := by rw [← h2.len]; rfl
  subst e1 e2
  clear h1 h2
  go_wp2_with fail
  refine (mulp_any w.heap.size A1 A2 1 c1 1 c2 (varL 1) (varL 1) _ (by omega) p1 p2 (by decide) (by decide) (by decide) hl hl (lt_big (by decide)) ebd_var1 ebd_var1).mono ?_
  rintro e w3 ⟨A3, n3, c3, rfl, h3, hb3⟩
  have hz3 := hb3.size
  have p3 : PolyC w.heap.size w3 A3 n3 c3 sq1 := h3
  have e3 : n3 = 1 := by rw [← p3.len, sq1_eq]; rfl
  subst e3
  have hl3 : l1 sq1 < big := lt_big (by rw [sq1_eq]; decide)
  have HD := Lib.hid (show Calls Try.prog 32 #[.slice A3 1 c3, .int .i64 1] w3 (ValP (.int .i64 2) w3) by
    have h9 := degree_any w.heap.size 0 A3 1 c3 sq1 w3 (by omega) (p3.wide hl3) (by decide) hl3 (by omega)
    rw [deg_sq1] at h9
    exact h9)
  clear h3 p3
  go_wp2_with fail
  refine HD.out.mono ?_
  rintro e w4 ⟨rfl, hb4⟩
  go_wp2
  go_ret
  exact ⟨rfl, ((hb1.trans (hb2.mono hz1)).trans (hb3.mono (by omega))).trans (hb4.mono (by omega))⟩
end Go.Proofs.Ytnknidfpkmnncaa
