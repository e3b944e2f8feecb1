/- The law's value: its walk. -/
import Derived.Test.YtnknidfpkmnncaaF3
namespace Go.Proofs.Ytnknidfpkmnncaa
open Go.RowKit

set_option maxRecDepth 100000 in
set_option maxHeartbeats 4000000 in
theorem value_any (B : Nat) (A : Option Addr) (n c : Nat) (al : List Tm) (x : Ex) (M E : Nat) (w : World) (hB : B ≤ w.heap.size) (h : PolyC B w A n c al) (hn : n ≤ 1073741824) (hx : XSmall x M) (hE : ∀ p ∈ al, ESmall p.2 E) (hM : 0 < M) (hM2 : M ≤ 2147483648) (hE2 : E ≤ 1073741824) (hbig : l1 al * M ^ (4 * E) < big) :
    Calls Try.prog 27 #[.slice A n c, .agg #[.int .i64 x.1, .int .i64 x.2.1, .int .i64 x.2.2.1, .int .i64 x.2.2.2]] w (IntP B (ev x al) w) := by
  have hcap := h.cap
  have HX := Lib.hid hx
  have HE := Lib.hid hE
  have HBG := Lib.hid hbig
  have HMB := Lib.hid (show M < big from Nat.lt_of_le_of_lt hM2 (lt_big (by omega)))
  clear hx hE hbig
  go_enter Try.func27, Try.ntmps27
  go_wp2_with fail
  have hb0 := below_box2 w (.cells #[.int .i64 x.1, .int .i64 x.2.1, .int .i64 x.2.2.1, .int .i64 x.2.2.2] 34) (.cells #[.bool false, .slice none 0 0] 46)
  have hxb0 : ((w.alloc (.cells #[.int .i64 x.1, .int .i64 x.2.1, .int .i64 x.2.2.1, .int .i64 x.2.2.2] 34)).alloc (.cells #[.bool false, .slice none 0 0] 46)).heap[w.heap.size]? = some (.cells #[.int .i64 x.1, .int .i64 x.2.1, .int .i64 x.2.2.1, .int .i64 x.2.2.2] 34 (0, 0)) := by
    rw [Below.heap_alloc _ _ _ (by simp)]; exact heap_alloc_new w _
  have hrb0 : ((w.alloc (.cells #[.int .i64 x.1, .int .i64 x.2.1, .int .i64 x.2.2.1, .int .i64 x.2.2.2] 34)).alloc (.cells #[.bool false, .slice none 0 0] 46)).heap[w.heap.size + 1]? = some (.cells #[.bool false, .slice none 0 0] 46 (0, 0)) := by
    have := heap_alloc_new (w.alloc (.cells #[.int .i64 x.1, .int .i64 x.2.1, .int .i64 x.2.2.1, .int .i64 x.2.2.2] 34)) (.cells #[.bool false, .slice none 0 0] 46)
    simpa using this
  have HXB := Lib.hid hxb0
  have HRB := Lib.hid hrb0
  clear hxb0 hrb0
  refine (iof_any B 0 _ (Nat.le_trans hB hb0.size) (by omega) (by omega)).mono ?_
  rintro e w1 ⟨A1, n1, c1, rfl, h1, hb1⟩
  have hz1 : w.heap.size + 1 < w1.heap.size := by have := hb1.size; simp at this; omega
  have hV0 : VSt B w x w1.heap.size 0 (w1.alloc (.cells #[.bool false, .slice A1 n1 c1] 46)) := by
    have hal : Below w1.heap.size w1 (w1.alloc (.cells #[.bool false, .slice A1 n1 c1] 46)) := (Below.refl _ _).alloc (Nat.le_refl _) _
    have hb2 := hb1.trans (hal.mono hb1.size)
    exact ⟨(hb2.block _ (heap_lt HXB.out)).trans HXB.out, (hb2.block _ (heap_lt HRB.out)).trans HRB.out, IBox.new (z := 0) h1, hz1, hb0.trans (hb2.mono (by simp; omega))⟩
  have HV0 := Lib.hid hV0
  clear hV0 HXB HRB hb1 h1 hb0
  obtain ⟨g5, hg5⟩ : ∃ g, g = w1.heap.size := ⟨_, rfl⟩
  rw [← hg5] at HV0 hz1
  go_wp2_with fail
  rw [← hg5]
  clear hg5
  go_loopw [6] (fun i wr => ∃ k : Nat, k ≤ n ∧ i = .int .i64 k ∧ VSt B w x g5 (ev x (al.take k)) wr) (fun i _ => n - (intOf i).toNat)
  case atStart => exact ⟨0, Nat.zero_le _, rfl, HV0.out⟩
  case round =>
    obtain ⟨W0, rfl⟩ : ∃ y, y = wr := ⟨_, rfl⟩
    obtain ⟨k, hk, rfl, hV⟩ := hrel
    by_cases hkn : k < n
    · obtain ⟨b, off, rfl, hs1, HT⟩ := h.term (by omega)
      obtain ⟨t, p, hp, hte, hcf, hh2, hh4⟩ := HT k hkn
      have hbV := hV.below
      have hh2' := held2_below hh2 hbV hs1
      obtain ⟨c0, c1⟩ := hh2'
      have hcf2 := hcf.below hbV (Nat.le_refl _)
      have hE4 := Lib.hid (show ∀ j, j < 4 → w.cell? ⟨b, off + k * 6 + 2 + j, none⟩ = some (.int .i64 (ex p.2 j)) from fun j hj => by
        rw [← hte]
        match j, hj with
        | 0, _ => exact hh4.1
        | 1, _ => exact hh4.2.1
        | 2, _ => exact hh4.2.2.1
        | 3, _ => exact hh4.2.2.2)
      rw [hcf2.1] at c0
      have hd := hcf2.2
      have HP := Lib.hid hp
      have i0 : (0 : Int) ≤ (k : Int) := by omega
      have i1 : (k : Int) < (n : Int) := by omega
      have hal : Below W0.heap.size W0 (W0.alloc (.cells #[.bool (decide (p.1 < 0)), .slice t.A t.n t.c] 46)) := (Below.refl _ _).alloc (Nat.le_refl _) _
      have HV1 := Lib.hid (hV.later hal)
      have HI1 := Lib.hid (IBox.new hd)
      have hgW : w.heap.size + 1 < W0.heap.size := Nat.lt_of_lt_of_le hV.hg (Nat.le_of_lt hV.vb.lt)
      have hg5W : g5 < W0.heap.size := hV.vb.lt
      clear HT hh2 hh4 hcf hcf2 hd hbV hp hte
      obtain ⟨g7, hg7⟩ : ∃ g, g = W0.heap.size := ⟨_, rfl⟩
      rw [← hg7] at HI1 hgW hg5W
      go_wp2_with fail
      rw [← hg7]
      have hg7s : g7 = W0.heap.size := hg7
      have HG7 := Lib.hid hg7
      clear hg7 hg7s
      have hES := Lib.hid (HE.out p (List.mem_of_getElem? HP.out))
      have HPL := Lib.hid (show p.1.natAbs * M ^ (4 * E) < big from Nat.lt_of_le_of_lt (Nat.mul_le_mul_right _ (l1_mem (List.mem_of_getElem? HP.out))) HBG.out)
      go_loopw [8] (fun i wq => ∃ j : Nat, j ≤ 4 ∧ i = .int .i64 j ∧ VSt B w x g5 (ev x (al.take k)) wq ∧ IBox B wq g7 (tk x p j)) (fun i _ => 4 - (intOf i).toNat)
      case atStart => exact ⟨0, by omega, rfl, HV1.out, HI1.out⟩
      case round =>
        obtain ⟨W2, rfl⟩ : ∃ y, y = wr := ⟨_, rfl⟩
        obtain ⟨j, hj, rfl, hVj, hIj⟩ := hrel
        by_cases hj4 : j < 4
        · have j0 : (0 : Int) ≤ (j : Int) := by omega
          have j1 : (j : Int) < 4 := by omega
          have HCX := Lib.hid (hE4.out j hj4)
          have hEj := Lib.hid (hES.out j hj4)
          have HXJ := Lib.hid (HX.out j hj4)
          obtain ⟨N, hN⟩ : ∃ N, N = (ex p.2 j).toNat := ⟨_, rfl⟩
          have hNE : N ≤ E := by rw [hN]; exact hEj.out
          obtain ⟨ee, hee⟩ : ∃ ee, ex p.2 j = ee := ⟨_, rfl⟩
          have HCE := Lib.hid (show w.cell? ⟨b, off + k * 6 + 2 + j, none⟩ = some (.int .i64 ee) by rw [← hee]; exact HCX.out)
          have hNe : (ee ≤ 0 ∧ N = 0) ∨ (0 < ee ∧ (N : Int) = ee) := by rw [hee] at hN; omega
          have HNN := Lib.hid hN
          clear hee hN
          go_wp2_with fail
          go_loopw [9] (fun i wq => ∃ m : Nat, m ≤ N ∧ i = .int .i64 m ∧ VSt B w x g5 (ev x (al.take k)) wq ∧ IBox B wq g7 (tk x p j * ex x j ^ m)) (fun i _ => N - (intOf i).toNat)
          case atStart => exact ⟨0, by omega, rfl, hVj, by simpa using hIj⟩
          case round =>
            clear hVj hIj
            obtain ⟨m, hm, rfl, hVm, hIm⟩ := hrel
            have hce := (hVm.below.cell (p := ⟨b, off + k * 6 + 2 + j, none⟩) hs1).trans HCE.out
            by_cases hmN : m < N
            · have hme : (m : Int) < ee := by omega
              have hxc := hVm.xcell j hj4
              obtain ⟨A7, n7, c7, d0, d1, f0, f1, hd7⟩ := hIm.cells
              have hTB := Lib.hid (Nat.lt_of_le_of_lt (tk_le HX.out hES.out hM j m hj4 (by omega)) HPL.out)
              have HTY := Lib.hid (show tk x p j * ex x j ^ m * ex x j = tk x p j * ex x j ^ (m + 1) by rw [Int.pow_succ, Int.mul_assoc])
              have HYB := Lib.hid (show (ex x j).natAbs < big from Nat.lt_of_le_of_lt HXJ.out HMB.out)
              have hy1 : -9223372036854775808 ≤ ex x j := by have := HXJ.out; omega
              have hy2 : ex x j ≤ 9223372036854775807 := by have := HXJ.out; omega
              obtain ⟨T', hT'⟩ : ∃ T', T' = tk x p j * ex x j ^ (m + 1) := ⟨_, rfl⟩
              rw [← hT'] at HTY
              have HT' := Lib.hid hT'
              clear hT'
              generalize tk x p j * ex x j ^ m = T at *
              generalize ex x j = y at *
              have hVd := hVm.later (w1 := wr.drew) ((Below.refl _ _).drew)
              have hId := hIm.below (w' := wr.drew) ((Below.refl _ _).drew)
              have hd7d := hd7.drew
              have hBq : B ≤ wr.drew.heap.size := Nat.le_trans hB hVd.below.size
              go_upto_region 12 with (fail)
              go_region_with (first
                | (go_at_call 29; (with_reducible refine (iof_any B y _ hBq hy1 hy2).mono ?_); rintro e3 w3 ⟨A3, n3, c3, rfl, h3, hb3⟩; have hV3 := hVd.later hb3; have hI3 := hId.below hb3; have hd73 := hd7d.below hb3 (Nat.le_refl _); have hB3 := Nat.le_trans hBq hb3.size; have d03 := (hb3.cell (p := ⟨g7, 0, none⟩) hId.lt).trans d0; have d13 := (hb3.cell (p := ⟨g7, 1, none⟩) hId.lt).trans d1)
                | (go_at_call 28; (with_reducible refine (imulC_any B T y A7 A3 n7 c7 n3 c3 _ hB3 hd73 h3 hTB.out HYB.out).mono ?_); rw [HTY.out]; rintro e4 w4 ⟨A4, n4, c4, rfl, h4, hb4⟩; have hV4 := hV3.later hb4; have hI4 := hI3.below hb4; obtain ⟨A5, n5, c5, k0, k1, l0, l1, _⟩ := hI4.cells))
              all_goals
                have hI5 := hI4.store (by omega) h4
                have hV5 := hV4.tstore hB hgW hI4.ty (by omega) (.bool (decide (T' < 0))) (.slice A4 n4 c4)
                have HI5 := Lib.hid hI5
                have HV5 := Lib.hid hV5
                clear hI5 hV5 hI4 hV4 hI3 hV3 hd73 h3 h4 hb3 hb4 d03 d13 k0 k1 l0 l1 hVd hId hd7d hd7 d0 d1 f0 f1 hxc hVm hIm
                go_wp2
                go_roundw
                case rel => exact ⟨m + 1, by omega, by go_num, HV5.out, by rw [← HT'.out]; exact HI5.out⟩
                case measure => simp [intOf]; omega
            · have hme : ¬ ((m : Int) < ee) := by omega
              obtain rfl : m = N := by omega
              have HV5 := Lib.hid hVm
              have HI5 := Lib.hid (show IBox B wr g7 (tk x p (j + 1)) by
                have h9 := hIm
                rw [HNN.out] at h9
                exact h9)
              clear hVm hIm
              go_wp2
              go_roundw
              case rel => exact ⟨j + 1, by omega, by go_num, HV5.out, HI5.out⟩
              case measure => simp [intOf]; omega
        · obtain rfl : j = 4 := by omega
          obtain ⟨A7, n7, c7, d0, d1, _, _, hd7⟩ := hIj.cells
          obtain ⟨A5, n5, c5, k0, k1, l0, l1, hd5⟩ := hVj.vb.cells
          have HSV := Lib.hid (show ev x (al.take k) + tk x p 4 = ev x (al.take (k + 1)) from (ev_step HP.out).symm)
          have HSB := Lib.hid (show (ev x (al.take k)).natAbs < big from Nat.lt_of_le_of_lt (ev_take_le HX.out HE.out hM k) HBG.out)
          have HTB := Lib.hid (show (tk x p 4).natAbs < big from Nat.lt_of_le_of_lt (evT_le HX.out hES.out hM) HPL.out)
          have HC := Lib.hid (iaddC_any B (ev x (al.take k)) (tk x p 4) A5 A7 n5 c5 n7 c7 W2 (Nat.le_trans hB hVj.below.size) hd5 hd7 HSB.out HTB.out)
          rw [HSV.out] at HC
          have HVj := Lib.hid hVj
          generalize ev x (al.take k) = V at *
          generalize tk x p 4 = T at *
          obtain ⟨V', hV'⟩ : ∃ V', V' = ev x (al.take (k + 1)) := ⟨_, rfl⟩
          rw [← hV'] at HC
          have HV' := Lib.hid hV'
          clear hV' hVj hIj hd7 hd5
          go_wp2_with fail
          refine HC.out.mono ?_
          rintro e w9 ⟨A9, n9, c9, rfl, h9, hb9⟩
          have hV9 := HVj.out.later hb9
          obtain ⟨_, _, _, k0, k1, l0, l1, _⟩ := hV9.vb.cells
          have HV10 := Lib.hid (hV9.vstore hB h9)
          clear hV9 h9 hb9
          go_wp2
          go_roundw
          case rel => exact ⟨k + 1, by omega, by go_num, by rw [← HV'.out]; exact HV10.out⟩
          case measure => simp [intOf]; omega
    · obtain rfl : k = n := by omega
      have hV9 := hV
      rw [List.take_of_length_le (by rw [h.len]; exact Nat.le_refl _)] at hV9
      obtain ⟨A5, n5, c5, k0, k1, l0, l1, hd5⟩ := hV9.vb.cells
      have r0 : W0.cell? ⟨w.heap.size + 1, 0, none⟩ = some (.bool false) := by rw [cell_of_row _ _ 0 _ _ _ hV9.rb]; rfl
      have r1 : W0.cell? ⟨w.heap.size + 1, 1, none⟩ = some (.slice none 0 0) := by rw [cell_of_row _ _ 1 _ _ _ hV9.rb]; rfl
      have q0 : W0.frozen? ⟨w.heap.size + 1, 0, none⟩ = false := by simp [World.frozen?, hV9.rb]
      have q1 : W0.frozen? ⟨w.heap.size + 1, 1, none⟩ = false := by simp [World.frozen?, hV9.rb]
      have hT := Lib.hid (show Ty W0 (w.heap.size + 1) 46 from ⟨_, _, hV9.rb⟩)
      have HD := Lib.hid hd5
      have HBL := Lib.hid hV9.below
      generalize ev x al = V at *
      clear hV hV9 hd5 HV0
      go_wp2
      refine bodyPost_ret (v := .agg #[.bool (decide (V < 0)), .slice A5 n5 c5]) (by simp [results, Try.results27, go_sem, r0, r1]) rfl ?_
      exact ⟨A5, n5, c5, rfl, HD.out.result (by omega) hT.out _ _, (HBL.out.setCell (by simp) _).setCell (by simp) _⟩
end Go.Proofs.Ytnknidfpkmnncaa
