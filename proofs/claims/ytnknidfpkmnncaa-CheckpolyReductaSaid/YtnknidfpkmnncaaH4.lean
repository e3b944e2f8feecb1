/- CheckpolyReducta: the law's walk. -/
import Derived.Test.YtnknidfpkmnncaaG3
namespace Go.Proofs.Ytnknidfpkmnncaa
open Go.RowKit

theorem Row.keepB {B T : Nat} {w w' : World} {A : Option Addr} {n c z : Nat} {cs : List Value} (h : Row B T w A n c z cs) (hz : 0 < z) (hb : Below w.heap.size w w') : Row B T w' A n c z cs := h.below hz hb (Nat.le_refl _)

set_option maxRecDepth 100000 in
set_option maxHeartbeats 8000000 in
theorem reductaLaw_any (B : Nat) (A : Option Addr) (n c : Nat) (L : List Mono) (z : Int) (w : World) (hB : B ≤ w.heap.size) (h : MonoR B w A n c L) (hn : n ≤ 9223372036854775807) (hz0 : 0 ≤ z) (hz1 : z ≤ 255) :
    Calls Try.prog 5 #[.slice A n c, .int .u8 z] w (ValP (.bool true) w) := by
  obtain ⟨j, hjz, hj⟩ : ∃ j : Nat, z % 4 = (j : Int) ∧ j < 4 := ⟨(z % 4).toNat, by omega, by omega⟩
  have hjt : z.tmod 4 = (j : Int) := by rw [Int.tmod_eq_emod_of_nonneg hz0]; exact hjz
  have hj1 : (1 : Int) + (j : Int) = (j : Int) + 1 := by omega
  have hj0 : (0 : Int) ≤ (j : Int) := by omega
  have hj4 : (j : Int) < 4 := by omega
  go_enter Try.func5, Try.ntmps5
  go_wp2_with fail
  refine (awake_any _).mono ?_
  rintro e w1 ⟨rfl, hb1⟩
  have hz1' := hb1.size
  go_wp2_with fail
  refine (few_any B A n c 6 4 L _ (h.below hb1 (Nat.le_refl _)) hn (by omega) (by omega) (by omega)).mono ?_
  rintro e w2 ⟨⟨f1, rfl, hf1⟩, hb2⟩
  replace hb2 := hb1.trans (hb2.mono hz1')
  have HF1 := Lib.hid hf1
  clear hf1
  cases f1
  · go_wp2_with fail
    refine (awake_any _).mono ?_
    rintro e w3 ⟨rfl, hb3⟩
    go_wp2
    go_ret
    exact ⟨rfl, hb2.trans (hb3.mono hb2.size)⟩
  have hm1 : n ≤ 6 := ((HF1.out).1 (by simp)).1
  have HE1 := Lib.hid (show AllE L 4 from fewE (((HF1.out).1 (by simp)).2))
  have hl1 : l1 L ≤ 768 := by have h8 := l1_mono h.rng; have h9 := h.lenL; omega
  clear HF1 hb1 hz1'
  go_wp2_with fail
  refine (poly_any B A n c L _ (Nat.le_trans hB hb2.size) (h.below hb2 (Nat.le_refl _)) (by omega)).mono ?_
  rintro e w3 ⟨A3, n3, c3, rfl, p3, hb3⟩
  have hlen3 : n3 ≤ 6 := by have h8 := p3.len; have h9 := h.lenL; omega
  have hW3 := hb2.trans (hb3.mono hb2.size)
  clear hb2 hb3 h
  go_wp2_with fail
  refine (normalp_any B A3 n3 c3 L _ (Nat.le_trans hB hW3.size) (p3.wide (lt_big (by omega))) (by unfold sortLim; omega) (lt_big (by omega))).mono ?_
  rintro e w4 ⟨A4, n4, c4, rfl, p4, hb4⟩
  have hW4 := hW3.trans (hb4.mono hW3.size)
  have hl4 : l1 (nf L) ≤ 768 := Nat.le_trans (l1_nf L) hl1
  have hn4 : n4 ≤ 6 := by have h8 := p4.len; have h9 := length_nf L; have h10 := p3.len; omega
  have HC4 := Lib.hid (nf_canon L)
  have HE4 := Lib.hid HE1.out.nf
  clear p3 hW3 hb4 HE1 hl1
  generalize nf L = a at *
  go_wp2_with fail
  have HR := Lib.hid (reducta_any B j A4 n4 c4 a w4 (Nat.le_trans hB hW4.size) (p4.wide (lt_big (by omega))) (by unfold sortLim; omega) (lt_big (by omega)) hj)
  rw [nf_of_canon HC4.out] at HR
  refine HR.out.mono ?_
  rintro e w5 ⟨A5, n5, c5, us, rfl, hul, hrow, hpr, hb5⟩
  have p5 := p4.below hb5 (Nat.le_refl _)
  have hW5 := hW4.trans (hb5.mono hW4.size)
  have hlen5 := p5.len
  have HUS := Lib.hid (And.intro hul hpr.length)
  have HLN := Lib.hid hlen5
  have hn5 : n5 ≤ 9223372036854775807 := Nat.le_trans hrow.cap hrow.bd
  clear p4 hW4 hb5 HR hul hlen5
  obtain ⟨RL, hRL⟩ : ∃ RL, RL = redl j a.length a := ⟨_, rfl⟩
  rw [← hRL] at hpr HUS
  have HRL := Lib.hid hRL
  clear hRL
  go_wp2_with fail
  go_loopw [5, 8] (fun fv i wr => ∃ (k : Nat) (A1 : Option Addr) (n1 c1 : Nat) (fa : List Tm), k ≤ n5 ∧ i = .int .i64 k ∧ fv = .slice A1 n1 c1 ∧ n1 ≤ 6 ∧ PolyC B wr A1 n1 c1 fa ∧ Row w4.heap.size 26 wr A5 n5 c5 1 us ∧ PRow B wr us RL ∧ Below w.heap.size w wr ∧ Hid (Canon fa ∧ l1 fa ≤ 768 ∧ AllE fa 4 ∧ redl j fa.length fa = RL.drop k)) (fun _ i _ => n5 - (intOf i).toNat)
  case atStart => exact ⟨0, A4, n4, c4, a, Nat.zero_le _, rfl, rfl, hn4, p5, hrow, hpr, hW5, Lib.hid ⟨HC4.out, hl4, HE4.out, by rw [HRL.out]; rfl⟩⟩
  case round =>
    obtain ⟨W0, rfl⟩ : ∃ y, y = wr := ⟨_, rfl⟩
    clear hrow hpr hW5 p5
    obtain ⟨k, A1, n1, c1, fa, hk, rfl, rfl, hn1, hp, hrow, hpr, hW, HV⟩ := hrel
    have hBW := Nat.le_trans hB hW.size
    have hlf : l1 fa < big := lt_big (by have := HV.out.2.1; omega)
    have HNF := Lib.hid (nf_of_canon HV.out.1)
    have HD := Lib.hid (degree_any B j A1 n1 c1 fa W0 hBW (hp.wide hlf) (by unfold sortLim; omega) hlf hj)
    rw [HNF.out] at HD
    have HLF := Lib.hid hp.len
    by_cases hkn : k < n5
    · obtain ⟨ra, hra⟩ : ∃ ra, RL[k]? = some ra := ⟨_, List.getElem?_eq_getElem (by have := HUS.out; omega)⟩
      have hdrop : RL.drop k = ra :: RL.drop (k + 1) := by
        have h8 := List.getElem?_eq_some_iff.1 hra
        rw [List.drop_eq_getElem_cons h8.1, h8.2]
      have hrd := HV.out.2.2.2
      rw [hdrop] at hrd
      have hd1 : 1 ≤ degL j fa ∧ ra = fa ∧ (if levL (coefL j (degL j fa) fa) = 0 then RL.drop (k + 1) = [] else redl j (fa.length - 1) (dropL j (degL j fa) fa) = RL.drop (k + 1)) := by
        cases hfl : fa.length with
        | zero => rw [hfl] at hrd; rw [redl] at hrd; cases hrd
        | succ q =>
          rw [hfl, redl] at hrd
          by_cases h8 : 1 ≤ degL j fa
          · rw [if_pos h8] at hrd
            injection hrd with h9 h10
            refine ⟨h8, h9.symm, ?_⟩
            by_cases h11 : levL (coefL j (degL j fa) fa) = 0
            · rw [if_pos h11] at h10 ⊢; exact h10.symm
            · rw [if_neg h11] at h10 ⊢; exact h10
          · rw [if_neg h8] at hrd; cases hrd
      obtain ⟨hd1, rfl, hrest⟩ := hd1
      have HREST := Lib.hid hrest
      obtain ⟨u, hu, Au, nu, cu, rfl, hpu⟩ := hpr.at_ hra
      obtain ⟨b, off, rfl, hbl, hcell⟩ := hrow.flatAt (by omega) (by omega)
      have hcu := hcell k _ hu
      have HDE := Lib.hid (degL_le (j := j) hj HV.out.2.2.1)
      obtain ⟨d, hd⟩ : ∃ d, d = degL j ra := ⟨_, rfl⟩
      rw [← hd] at HD hd1 HREST HDE
      have HDD := Lib.hid hd
      have hnu : nu ≤ 6 := by have h8 := hpu.len; have h9 := HLF.out; omega
      have i0 : (0 : Int) ≤ (k : Int) := by omega
      have i1 : (k : Int) < (n5 : Int) := by omega
      clear hra hdrop hrd hrest hu hcell hd
      go_wp2_with fail
      refine HD.out.mono ?_
      rintro e w6 ⟨rfl, hb6⟩
      replace hcu := (hb6.cell (p := ⟨b, off + k, none⟩) hbl).trans hcu
      have hp6 := hp.below hb6 (Nat.le_refl _)
      have hpu6 := hpu.below hb6 (Nat.le_refl _)
      have hW6 := hW.trans (hb6.mono hW.size)
      have HB06 := Lib.hid hb6
      clear HD hp hpu hb6
      have hdn : decide (d < 1) = false := by rw [decide_eq_false_iff_not]; omega
      go_wp2_with fail
      refine (equal_any B Au A1 nu cu n1 c1 ra ra w6 hpu6 hp6 (by omega) (by omega)).mono ?_
      rw [decide_eq_true (rfl : ra = ra)]
      rintro e w7 ⟨rfl, hb7⟩
      have hp7 := hp6.below hb7 (Nat.le_refl _)
      have hW7 := hW6.trans (hb7.mono hW6.size)
      have HB07 := Lib.hid (HB06.out.trans (hb7.mono HB06.out.size))
      clear hp6 hpu6 hb7 hW6 HB06 hcu
      have HCO := Lib.hid (coef_any B j A1 n1 c1 ra d w7 (Nat.le_trans hB hW7.size) (hp7.wide hlf) (by unfold sortLim; omega) hlf hj)
      rw [HNF.out] at HCO
      go_wp2_with fail
      refine HCO.out.mono ?_
      rintro e w8 ⟨A8, n8, c8, rfl, hp8, hb8⟩
      have hp7b := hp7.below hb8 (Nat.le_refl _)
      have hW8 := hW7.trans (hb8.mono hW7.size)
      have HB08 := Lib.hid (HB07.out.trans (hb8.mono HB07.out.size))
      have HCC := Lib.hid (coefL_canon (d := d) hj HV.out.1)
      have hlc : l1 (coefL j d ra) ≤ 768 := Nat.le_trans (l1_coefL j d ra) HV.out.2.1
      have hn8 : n8 ≤ 6 := by have h8 := hp8.len; have h9 := coefL_len j d ra; have := HLF.out; omega
      have HEC := Lib.hid (AllE.coef (d := d) hj HV.out.2.2.1)
      have HTOP := Lib.hid (shift_coef j hj d ra)
      clear hp7 hb8 hW7 HCO HB07
      obtain ⟨ca, hca⟩ : ∃ ca, ca = coefL j d ra := ⟨_, rfl⟩
      rw [← hca] at hp8 HCC hlc HEC HTOP HREST
      clear hca
      have HLV := Lib.hid (level_any B A8 n8 c8 ca w8 (Nat.le_trans hB hW8.size) (hp8.wide (lt_big (by omega))) (by unfold sortLim; omega) (lt_big (by omega)))
      rw [nf_of_canon HCC.out] at HLV
      obtain ⟨lv, hlv⟩ : ∃ lv, lv = levL ca := ⟨_, rfl⟩
      rw [← hlv] at HLV HREST
      clear hlv
      go_wp2_with fail
      refine HLV.out.mono ?_
      rintro e w9 ⟨rfl, hb9⟩
      have hp7c := hp7b.below hb9 (Nat.le_refl _)
      have hp8c := hp8.below hb9 (Nat.le_refl _)
      have hW9 := hW8.trans (hb9.mono hW8.size)
      have HB09 := Lib.hid (HB08.out.trans (hb9.mono HB08.out.size))
      clear hp7b hp8 hb9 hW8 HLV HB08
      by_cases hlv0 : lv = 0
      · have hle : n5 = k + 1 := by
          have h8 := HREST.out
          rw [if_pos hlv0] at h8
          have h9 := congrArg List.length h8
          rw [List.length_drop, List.length_nil] at h9
          have := HUS.out
          omega
        have hq0 : ((lv : Int) == 0) = true := by rw [beq_iff_eq]; omega
        have hq1 : (n5 : Int) - 1 = (k : Int) := by omega
        clear hlv0 hle HREST
        go_wp2
        go_ret
        exact ⟨by first | rfl | simp, hW9⟩
      · have hq0 : ((lv : Int) == 0) = false := by rw [beq_eq_false_iff_ne]; omega
        have HRS := Lib.hid (show redl j (ra.length - 1) (dropL j d ra) = RL.drop (k + 1) by
          have h8 := HREST.out
          rw [if_neg hlv0] at h8
          exact h8)
        have hd0 : (0 : Int) ≤ d := by omega
        have hd4 : d ≤ 4 := HDE.out
        clear hlv0 HREST
        go_wp2_with fail
        go_loopw [10, 11] (fun lv kv wq => ∃ (q : Nat) (A2 : Option Addr) (n2 c2 : Nat), (q : Int) ≤ d ∧ kv = .int .i64 q ∧ lv = .slice A2 n2 c2 ∧ n2 ≤ 6 ∧ PolyC B wq A2 n2 c2 (shiftL j q ca) ∧ Below w9.heap.size w9 wq) (fun _ kv _ => (d - intOf kv).toNat)
        case atStart => exact ⟨0, A8, n8, c8, by omega, rfl, rfl, hn8, by rw [show ((0 : Nat) : Int) = 0 from rfl, shiftL_zero j hj]; exact hp8c, Below.refl _ _⟩
        case round =>
          obtain ⟨W2, rfl⟩ : ∃ y, y = wr := ⟨_, rfl⟩
          obtain ⟨q, A2, n2, c2, hq, rfl, rfl, hn2, hp2, hbq⟩ := hrel
          have hBq : B ≤ W2.heap.size := Nat.le_trans hB (Nat.le_trans hW9.size hbq.size)
          by_cases hqd : (q : Int) < d
          · go_wp2_with fail
            have hva := var_any B (j + 1) W2 hBq (by omega) (by omega)
            rw [show ((j + 1 : Nat) : Int) = (j : Int) + 1 by omega] at hva
            refine hva.mono ?_
            clear hva
            rintro e w10 ⟨A10, n10, c10, rfl, hp10, hb10⟩
            obtain rfl : n10 = 1 := by have h8 := hp10.len; rw [varL_eq j hj] at h8; simp at h8; omega
            have hp2b := hp2.below hb10 (Nat.le_refl _)
            have hls : l1 (shiftL j q ca) < big := by rw [l1_shiftL]; exact lt_big (by omega)
            have hlv : l1 (varL (j + 1)) < big := by rw [varL_eq j hj]; exact lt_big (by simp [l1])
            have HMU := Lib.hid (mulp_any B A2 A10 n2 c2 1 c10 (shiftL j q ca) (varL (j + 1)) w10 (Nat.le_trans hBq hb10.size) (hp2b.wide hls) (hp10.wide hlv) (by unfold sortLim; omega) (by unfold sortLim; omega) (by unfold sortLim; omega) hls hlv (by rw [l1_shiftL, varL_eq j hj]; exact lt_big (by simp [l1]; omega)) ((AllE.shift (F := 4) hj HEC.out (by omega)).ebd (by omega)) (by
              intro p hp i hi
              rw [varL_eq j hj] at hp
              rw [List.mem_singleton.1 hp]
              match j, hj, i, hi with
              | 0, _, 0, _ => decide
              | 0, _, 1, _ => decide
              | 0, _, 2, _ => decide
              | 0, _, 3, _ => decide
              | 1, _, 0, _ => decide
              | 1, _, 1, _ => decide
              | 1, _, 2, _ => decide
              | 1, _, 3, _ => decide
              | 2, _, 0, _ => decide
              | 2, _, 1, _ => decide
              | 2, _, 2, _ => decide
              | 2, _, 3, _ => decide
              | 3, _, 0, _ => decide
              | 3, _, 1, _ => decide
              | 3, _, 2, _ => decide
              | 3, _, 3, _ => decide))
            rw [mulp_var j hj (shift_canon hj (by omega) HCC.out), shiftL_shiftL j hj] at HMU
            clear hp2 hp10 hp2b hls hlv
            go_wp2_with fail
            refine HMU.out.mono ?_
            rintro e w11 ⟨A11, n11, c11, rfl, hp11, hb11⟩
            have hn11 : n11 ≤ 6 := by have h8 := hp11.len; unfold shiftL at h8; rw [List.length_map] at h8; have h9 := hp8c.len; omega
            have HBQ := Lib.hid ((hbq.trans (hb10.mono hbq.size)).trans (hb11.mono (Nat.le_trans hbq.size hb10.size)))
            have HP11 := Lib.hid (show PolyC B w11 A11 n11 c11 (shiftL j ((q + 1 : Nat) : Int) ca) by rw [show ((q + 1 : Nat) : Int) = (q : Int) + 1 by omega]; exact hp11)
            clear hbq hb10 hb11 HMU hp11
            go_wp2
            go_roundw
            case rel => exact ⟨q + 1, A11, n11, c11, by omega, by go_num, rfl, hn11, HP11.out, HBQ.out⟩
            case measure => simp [intOf]; omega
          · have hqe : (q : Int) = d := by omega
            have hp2t : PolyC B W2 A2 n2 c2 (topL j d ra) := by rw [← HTOP.out, ← hqe]; exact hp2
            have hp7d := hp7c.below hbq (Nat.le_refl _)
            have hlt : l1 (topL j d ra) ≤ 768 := Nat.le_trans (l1_filter _ _) HV.out.2.1
            have HSU := Lib.hid (subp_new B A1 A2 n1 c1 n2 c2 ra (topL j d ra) W2 hBq (hp7d.wide hlf) (hp2t.wide (lt_big (by omega))) (by unfold sortLim; omega) (lt_big (by have := HV.out.2.1; omega)))
            rw [sub_top j d HV.out.1] at HSU
            have HW2 := Lib.hid (And.intro (hW9.trans (hbq.mono hW9.size)) (HB09.out.trans (hbq.mono HB09.out.size)))
            clear hqe hp2 hp2t hp7d hlt hbq
            go_wp2_with fail
            refine HSU.out.mono ?_
            rintro e w12 ⟨A12, n12, c12, rfl, hp12, hb12, _⟩
            have hn12 : n12 ≤ 6 := by have h8 := hp12.len; have h9 : (dropL j d ra).length ≤ ra.length := List.length_filter_le _ _; have := HLF.out; omega
            have HW12 := Lib.hid (And.intro (HW2.out.1.trans (hb12.mono HW2.out.1.size)) (HW2.out.2.trans (hb12.mono HW2.out.2.size)))
            have HP12 := Lib.hid hp12
            have HV12 := Lib.hid (show Canon (dropL j d ra) ∧ l1 (dropL j d ra) ≤ 768 ∧ AllE (dropL j d ra) 4 ∧ redl j (dropL j d ra).length (dropL j d ra) = RL.drop (k + 1) from
              ⟨dropL_canon HV.out.1, Nat.le_trans (l1_filter _ _) HV.out.2.1, HV.out.2.2.1.drop, by
                rw [← HRS.out]
                refine redl_fuel (Nat.le_refl _) ?_
                have h8 := dropL_lt (j := j) (al := ra) (by rw [← HDD.out]; exact hd1)
                rw [← HDD.out] at h8
                omega⟩)
            clear hp12 hb12 HSU
            go_wp2
            go_roundw
            case rel => exact ⟨k + 1, A12, n12, c12, dropL j d ra, by omega, by go_num, rfl, hn12, HP12.out, hrow.keepB (by omega) HW12.out.2, hpr.below HW12.out.2, HW12.out.1, HV12⟩
            case measure => simp [intOf]; omega
    · obtain rfl : k = n5 := by omega
      have hd1 : ¬ 1 ≤ degL j fa := by
        intro h8
        have h9 := HV.out.2.2.2
        rw [List.drop_eq_nil_of_le (by have := HUS.out; omega)] at h9
        have h10 := dropL_lt h8
        cases hfl : fa.length with
        | zero => omega
        | succ q => rw [hfl, redl, if_pos h8] at h9; cases h9
      obtain ⟨d, hd⟩ : ∃ d, d = degL j fa := ⟨_, rfl⟩
      rw [← hd] at HD hd1
      clear hd
      go_wp2_with fail
      refine HD.out.mono ?_
      rintro e w6 ⟨rfl, hb6⟩
      have hfin := hW.trans (hb6.mono hW.size)
      have hdt : decide (d < 1) = true := by rw [decide_eq_true_eq]; omega
      clear hp hpr hrow hb6
      go_wp2
      go_ret
      exact ⟨by first | (rw [hdt]; rfl) | rfl | simp, hfin⟩
end Go.Proofs.Ytnknidfpkmnncaa
