/- The reference's At, the law's wide. -/
import Derived.Test.YtnknidfpkmnncaaF4
import Derived.Outline
namespace Go.Proofs.Ytnknidfpkmnncaa
open Go.RowKit

set_option maxRecDepth 100000 in
set_option maxHeartbeats 4000000 in
theorem at_any' (B : Nat) (A : Option Addr) (n c : Nat) (L : List Mono) (x : Ex) (M E : Nat) (w : World) (h0 : MonoR B w A n c L) (hn : n ≤ 1073741824) (hx : XSmall x M) (hE : ∀ p ∈ L, ESmall p.2 E) (hM : 0 < M) (hE2 : E ≤ 255) (hbig : l1 L * M ^ (4 * E) < 4611686018427387904) :
    Calls Try.prog 20 #[.slice A n c, .agg #[.int .i64 x.1, .int .i64 x.2.1, .int .i64 x.2.2.1, .int .i64 x.2.2.2]] w (ValP (.int .i64 (ev x L)) w) := by
  have hcap := h0.row.cap
  have HX := Lib.hid hx
  have HE := Lib.hid hE
  have HBG := Lib.hid hbig
  have hb0 : Below w.heap.size w (w.alloc (.cells #[.int .i64 x.1, .int .i64 x.2.1, .int .i64 x.2.2.1, .int .i64 x.2.2.2] 34)) := (Below.refl _ _).alloc (Nat.le_refl _) _
  have h := h0.below hb0 (Nat.le_refl _)
  have HXC := Lib.hid (show ∀ k, k < 4 → (w.alloc (.cells #[.int .i64 x.1, .int .i64 x.2.1, .int .i64 x.2.2.1, .int .i64 x.2.2.2] 34)).cell? ⟨w.heap.size, k, none⟩ = some (.int .i64 (ex x k)) from fun k hk => ex_cell _ _ x.1 x.2.1 x.2.2.1 x.2.2.2 (heap_alloc_new w _) k hk)
  clear hx hE hbig h0
  go_enter Try.func20, Try.ntmps20
  go_wp2_with fail
  obtain ⟨W, hW⟩ : ∃ W, W = (w.alloc (.cells #[.int .i64 x.1, .int .i64 x.2.1, .int .i64 x.2.2.1, .int .i64 x.2.2.2] 34)) := ⟨_, rfl⟩
  rw [← hW] at h HXC hb0 ⊢
  clear hW
  go_loop [5, 6] (fun v i => ∃ k : Nat, k ≤ n ∧ i = .int .i64 k ∧ v = .int .i64 (ev x (L.take k))) (fun _ i => n - (intOf i).toNat)
  case atStart => exact ⟨0, Nat.zero_le _, rfl, by simp [ev]⟩
  case round =>
    obtain ⟨k, hk, rfl, rfl⟩ := hrel
    have hVB := ev_take_le HX.out HE.out hM k
    by_cases hkn : k < n
    · obtain ⟨b, off, rfl, hbs, hc⟩ := h.cells (by omega)
      obtain ⟨p, hp, hc0, hcj⟩ := hc k hkn
      have hr := h.rng p (List.mem_of_getElem? hp)
      have hr1 := hr.1
      have hr2 := hr.2.1
      have HR := Lib.hid hr.2.2
      have HP := Lib.hid hp
      have HC := Lib.hid hcj
      have i0 : (0 : Int) ≤ (k : Int) := by omega
      have i1 : (k : Int) < (n : Int) := by omega
      have hES := Lib.hid (HE.out p (List.mem_of_getElem? hp))
      have HPL := Lib.hid (show p.1.natAbs * M ^ (4 * E) < 4611686018427387904 from Nat.lt_of_le_of_lt (Nat.mul_le_mul_right _ (l1_mem (List.mem_of_getElem? hp))) HBG.out)
      have HSV := Lib.hid (show ev x (L.take k) + tk x p 4 = ev x (L.take (k + 1)) from (ev_step hp).symm)
      have hv1 : -4611686018427387904 < ev x (L.take k) ∧ ev x (L.take k) < 4611686018427387904 := by have := HBG.out; omega
      clear hc hcj hp hr hVB
      generalize ev x (L.take k) = V at *
      obtain ⟨hv1, hv2⟩ := hv1
      go_wp2_with fail
      go_loop [7, 8] (fun t i => ∃ j : Nat, j ≤ 4 ∧ i = .int .i64 j ∧ t = .int .i64 (tk x p j)) (fun _ i => 4 - (intOf i).toNat)
      case atStart => exact ⟨0, by omega, rfl, rfl⟩
      case round =>
        obtain ⟨j, hj, rfl, rfl⟩ := hrel
        by_cases hj4 : j < 4
        · have j0 : (0 : Int) ≤ (j : Int) := by omega
          have j1 : (j : Int) < 4 := by omega
          have hce := HC.out j hj4
          have hxc := HXC.out j hj4
          have hEj := Lib.hid (hES.out j hj4)
          have he0 := (HR.out j).1
          have he1 := (HR.out j).2
          obtain ⟨N, hN⟩ : ∃ N, N = (ex p.2 j).toNat := ⟨_, rfl⟩
          have hNE : N ≤ E := by rw [hN]; exact hEj.out
          have hNe : (N : Int) = ex p.2 j := by omega
          have HNN := Lib.hid hN
          rw [← hNe] at hce
          clear hNe hN he0 he1
          have hN255 : N ≤ 255 := by omega
          go_wp2_with fail
          go_loop [7, 9] (fun t i => ∃ m : Nat, m ≤ N ∧ i = .int .i64 m ∧ t = .int .i64 (tk x p j * ex x j ^ m)) (fun _ i => N - (intOf i).toNat)
          case atStart => exact ⟨0, by omega, rfl, by simp⟩
          case round =>
            obtain ⟨m, hm, rfl, rfl⟩ := hrel
            by_cases hmN : m < N
            · have hTB := tk_le HX.out hES.out hM j (m + 1) hj4 (by omega)
              have hTB2 := HPL.out
              obtain ⟨T', hT'⟩ : ∃ T', T' = tk x p j * ex x j ^ (m + 1) := ⟨_, rfl⟩
              have hTY : tk x p j * ex x j ^ m * ex x j = T' := by rw [hT', Int.pow_succ, Int.mul_assoc]
              rw [← hT'] at hTB
              have HT' := Lib.hid hT'
              have ht1 : -4611686018427387904 < T' := by omega
              have ht2 : T' < 4611686018427387904 := by omega
              clear hT' hTB hTB2
              generalize tk x p j * ex x j ^ m = T at *
              generalize ex x j = y at *
              go_wp2
              go_round
              case rel => exact ⟨m + 1, by omega, by go_num, by rw [← HT'.out]⟩
              case measure => simp [intOf]; omega
            · obtain rfl : m = N := by omega
              have HI5 := Lib.hid (show tk x p j * ex x j ^ m = tk x p (j + 1) by
                rw [HNN.out]; rfl)
              go_wp2
              go_round
              case rel => exact ⟨j + 1, by omega, by go_num, by rw [HI5.out]⟩
              case measure => simp [intOf]; omega
        · obtain rfl : j = 4 := by omega
          have hTB := evT_le HX.out hES.out hM
          have hTB2 := HPL.out
          unfold evT at hTB
          have ht : -4611686018427387904 < tk x p 4 ∧ tk x p 4 < 4611686018427387904 := by omega
          clear hTB hTB2
          generalize tk x p 4 = T at *
          obtain ⟨ht1, ht2⟩ := ht
          go_wp2
          go_round
          case rel => exact ⟨k + 1, by omega, by go_num, by rw [← HSV.out]⟩
          case measure => simp [intOf]; omega
    · obtain rfl : k = n := by omega
      have HF := Lib.hid (show ev x (L.take k) = ev x L by rw [List.take_of_length_le (by rw [h.lenL]; exact Nat.le_refl _)])
      clear hVB
      go_wp2
      go_ret
      exact ⟨by first | rfl | (rw [HF.out]; rfl), hb0⟩

theorem tmod7 (a : Int) : -6 ≤ a.tmod 7 ∧ a.tmod 7 ≤ 6 := by
  have h1 := Int.natAbs_tmod a 7
  have h2 : a.natAbs % (7 : Int).natAbs < 7 := Nat.mod_lt _ (by decide)
  omega
set_option maxRecDepth 100000 in
set_option maxHeartbeats 1000000 in
theorem wide_any (a : Ex) (w : World) (ha : ∀ j, j < 4 → -128 ≤ ex a j ∧ ex a j ≤ 127) :
    Calls Try.prog 19 #[.agg #[.int .i8 a.1, .int .i8 a.2.1, .int .i8 a.2.2.1, .int .i8 a.2.2.2]] w (ValP (.agg #[.int .i64 (a.1.tmod 7), .int .i64 (a.2.1.tmod 7), .int .i64 (a.2.2.1.tmod 7), .int .i64 (a.2.2.2.tmod 7)]) w) := by
  obtain ⟨a0, a1, a2, a3⟩ := a
  have h0 := ha 0 (by omega)
  have h1 := ha 1 (by omega)
  have h2 := ha 2 (by omega)
  have h3 := ha 3 (by omega)
  simp only [ex] at h0 h1 h2 h3
  obtain ⟨h00, h01⟩ := h0
  obtain ⟨h10, h11⟩ := h1
  obtain ⟨h20, h21⟩ := h2
  obtain ⟨h30, h31⟩ := h3
  obtain ⟨m00, m01⟩ := tmod7 a0
  obtain ⟨m10, m11⟩ := tmod7 a1
  obtain ⟨m20, m21⟩ := tmod7 a2
  obtain ⟨m30, m31⟩ := tmod7 a3
  go_enter Try.func19, Try.ntmps19
  go_wp2
  refine bodyPost_ret (v := .agg #[.int .i64 (a0.tmod 7), .int .i64 (a1.tmod 7), .int .i64 (a2.tmod 7), .int .i64 (a3.tmod 7)]) (by simp [results, Try.results19, go_sem]) rfl ?_
  exact ⟨rfl, below_box2 w _ _⟩
end Go.Proofs.Ytnknidfpkmnncaa
