/- CheckpolySums: the law's walk. -/
import Derived.Test.YtnknidfpkmnncaaH1
namespace Go.Proofs.Ytnknidfpkmnncaa
open Go.RowKit

set_option maxRecDepth 100000 in
set_option maxHeartbeats 8000000 in
theorem sumsLaw_any (B : Nat) (A A2 : Option Addr) (n c n2 c2 : Nat) (L L2 : List Mono) (a : Ex) (w : World) (hB : B ≤ w.heap.size) (h : MonoR B w A n c L) (h2 : MonoR B w A2 n2 c2 L2)
    (hn : n ≤ 9223372036854775807) (hn2 : n2 ≤ 9223372036854775807) (ha : ∀ j, j < 4 → -128 ≤ ex a j ∧ ex a j ≤ 127) :
    Calls Try.prog 4 #[.slice A n c, .slice A2 n2 c2, .agg #[.int .i8 a.1, .int .i8 a.2.1, .int .i8 a.2.2.1, .int .i8 a.2.2.2]] w (ValP (.bool true) w) := by
  have hb0 : Below w.heap.size w (w.alloc (.cells #[.int .i8 a.1, .int .i8 a.2.1, .int .i8 a.2.2.1, .int .i8 a.2.2.2] 33)) := (Below.refl _ _).alloc (Nat.le_refl _) _
  have hat : (w.alloc (.cells #[.int .i8 a.1, .int .i8 a.2.1, .int .i8 a.2.2.1, .int .i8 a.2.2.2] 33)).heap[w.heap.size]? = some (.cells #[.int .i8 a.1, .int .i8 a.2.1, .int .i8 a.2.2.1, .int .i8 a.2.2.2] 33 (0, 0)) := heap_alloc_new w _
  have HAT := Lib.hid hat
  clear hat
  go_enter Try.func4, Try.ntmps4
  go_wp2_with fail
  refine (awake_any _).mono ?_
  rintro e w1 ⟨rfl, hb1⟩
  have HAT1 := Lib.hid ((hb1.block _ (heap_lt HAT.out)).trans HAT.out)
  replace hb1 := hb0.trans (hb1.mono hb0.size)
  have hz1 := hb1.size
  clear HAT hb0
  go_wp2_with fail
  refine (few6 B A n c L _ (h.below hb1 (Nat.le_refl _)) (by omega)).mono ?_
  rintro e w2 ⟨⟨f1, rfl, hf1⟩, hb2⟩
  have HAT2 := Lib.hid ((hb2.block _ (heap_lt HAT1.out)).trans HAT1.out)
  replace hb2 := hb1.trans (hb2.mono hz1)
  have HF1 := Lib.hid hf1
  clear hf1 HAT1
  cases f1
  · go_wp2_with fail
    refine (awake_any _).mono ?_
    rintro e w3 ⟨rfl, hb3⟩
    go_wp2
    go_ret
    exact ⟨rfl, hb2.trans (hb3.mono hb2.size)⟩
  go_wp2_with fail
  refine (few6 B A2 n2 c2 L2 _ (h2.below hb2 (Nat.le_refl _)) (by omega)).mono ?_
  rintro e w3 ⟨⟨f2, rfl, hf2⟩, hb3⟩
  have HAT3 := Lib.hid ((hb3.block _ (heap_lt HAT2.out)).trans HAT2.out)
  replace hb3 := hb2.trans (hb3.mono hb2.size)
  have HF2 := Lib.hid hf2
  clear hf2 HAT2
  cases f2
  · go_wp2_with fail
    refine (awake_any _).mono ?_
    rintro e w4 ⟨rfl, hb4⟩
    go_wp2
    go_ret
    exact ⟨rfl, hb3.trans (hb4.mono hb3.size)⟩
  have hm1 : n ≤ 6 := ((HF1.out).1 (by simp)).1
  have hm2 : n2 ≤ 6 := ((HF2.out).1 (by simp)).1
  have HE1 := Lib.hid (show AllE L 3 from fewE (((HF1.out).1 (by simp)).2))
  have HE2 := Lib.hid (show AllE L2 3 from fewE (((HF2.out).1 (by simp)).2))
  have HV1 := Lib.hid (monoV h.rng)
  have HV2 := Lib.hid (monoV h2.rng)
  have hl1 : l1 L ≤ 768 := by have h8 := l1_mono h.rng; have h9 := h.lenL; omega
  have hl2 : l1 L2 ≤ 768 := by have h8 := l1_mono h2.rng; have h9 := h2.lenL; omega
  obtain ⟨x, hx⟩ : ∃ x : Ex, x = (a.1.tmod 7, a.2.1.tmod 7, a.2.2.1.tmod 7, a.2.2.2.tmod 7) := ⟨_, rfl⟩
  have HXS := Lib.hid (show XSmall x 6 by rw [hx]; exact tmod7_small a)
  have HWD := Lib.hid (show ∀ W', Calls Try.prog 19 #[.agg #[.int .i8 a.1, .int .i8 a.2.1, .int .i8 a.2.2.1, .int .i8 a.2.2.2]] W' (ValP (.agg #[.int .i64 x.1, .int .i64 x.2.1, .int .i64 x.2.2.1, .int .i64 x.2.2.2]) W') from fun W' => by rw [hx]; exact wide_any a W' ha)
  have HP1 := Lib.hid (show ∀ W', Below w3.heap.size w3 W' → Calls Try.prog 15 #[.slice A n c] W' (PolyP B L W') from fun W' hb => poly_any B A n c L W' (Nat.le_trans hB (Nat.le_trans hb3.size hb.size)) ((h.below hb3 (Nat.le_refl _)).below hb (Nat.le_refl _)) (by omega))
  have HP2 := Lib.hid (show ∀ W', Below w3.heap.size w3 W' → Calls Try.prog 15 #[.slice A2 n2 c2] W' (PolyP B L2 W') from fun W' hb => poly_any B A2 n2 c2 L2 W' (Nat.le_trans hB (Nat.le_trans hb3.size hb.size)) ((h2.below hb3 (Nat.le_refl _)).below hb (Nat.le_refl _)) (by omega))
  have hbd1 : l1 L * 6 ^ (4 * 3) < 4611686018427387904 := Nat.lt_of_le_of_lt (Nat.mul_le_mul_right _ hl1) (by decide)
  have hbd2 : l1 L2 * 6 ^ (4 * 3) < 4611686018427387904 := Nat.lt_of_le_of_lt (Nat.mul_le_mul_right _ hl2) (by decide)
  have HA1 := Lib.hid (show ∀ W', Below w3.heap.size w3 W' → Calls Try.prog 20 #[.slice A n c, .agg #[.int .i64 x.1, .int .i64 x.2.1, .int .i64 x.2.2.1, .int .i64 x.2.2.2]] W' (ValP (.int .i64 (ev x L)) W') from fun W' hb => at_any' B A n c L x 6 3 W' ((h.below hb3 (Nat.le_refl _)).below hb (Nat.le_refl _)) (by omega) HXS.out HE1.out (by omega) (by omega) hbd1)
  have HA2 := Lib.hid (show ∀ W', Below w3.heap.size w3 W' → Calls Try.prog 20 #[.slice A2 n2 c2, .agg #[.int .i64 x.1, .int .i64 x.2.1, .int .i64 x.2.2.1, .int .i64 x.2.2.2]] W' (ValP (.int .i64 (ev x L2)) W') from fun W' hb => at_any' B A2 n2 c2 L2 x 6 3 W' ((h2.below hb3 (Nat.le_refl _)).below hb (Nat.le_refl _)) (by omega) HXS.out HE2.out (by omega) (by omega) hbd2)
  have HVA := Lib.hid (show -1152921504606846976 ≤ ev x L ∧ ev x L ≤ 1152921504606846976 by
    have h8 := ev_le HXS.out HE1.out (by omega)
    have h9 : l1 L * 6 ^ (4 * 3) ≤ 768 * 6 ^ (4 * 3) := Nat.mul_le_mul_right _ hl1
    have h10 : 768 * 6 ^ (4 * 3) ≤ 1152921504606846976 := by decide
    omega)
  have HVB := Lib.hid (show -1152921504606846976 ≤ ev x L2 ∧ ev x L2 ≤ 1152921504606846976 by
    have h8 := ev_le HXS.out HE2.out (by omega)
    have h9 : l1 L2 * 6 ^ (4 * 3) ≤ 768 * 6 ^ (4 * 3) := Nat.mul_le_mul_right _ hl2
    have h10 : 768 * 6 ^ (4 * 3) ≤ 1152921504606846976 := by decide
    omega)
  clear hbd1 hbd2
  have hL1 := h.lenL
  have hL2 := h2.lenL
  have HL := Lib.hid (And.intro hL1 hL2)
  clear HF1 HF2 hb1 hb2 hz1 hx ha hL1 hL2 h h2 hn hn2
  have hbt : w.heap.size < w3.heap.size := heap_lt HAT3.out
  have hc0 : w3.cell? ⟨w.heap.size, 0, none⟩ = some (.int .i8 a.1) := by rw [cell_of_row _ _ 0 _ _ _ HAT3.out]; rfl
  have hc1 : w3.cell? ⟨w.heap.size, 1, none⟩ = some (.int .i8 a.2.1) := by rw [cell_of_row _ _ 1 _ _ _ HAT3.out]; rfl
  have hc2 : w3.cell? ⟨w.heap.size, 2, none⟩ = some (.int .i8 a.2.2.1) := by rw [cell_of_row _ _ 2 _ _ _ HAT3.out]; rfl
  have hc3 : w3.cell? ⟨w.heap.size, 3, none⟩ = some (.int .i8 a.2.2.2) := by rw [cell_of_row _ _ 3 _ _ _ HAT3.out]; rfl
  obtain ⟨gt, hgt⟩ : ∃ g, g = w.heap.size := ⟨_, rfl⟩
  rw [← hgt] at hbt hc0 hc1 hc2 hc3
  go_upto_region 3 with (fail)
  rw [← hgt]
  clear hgt HAT3
  have hbA : Below w3.heap.size w3 w3.drew := (Below.refl _ _).drew
  have hbB : Below w3.heap.size w3 (w3.alloc (.cells #[.int .i64 0, .int .i64 0, .int .i64 0, .int .i64 0] 34)).drew := ((Below.refl _ _).alloc (Nat.le_refl _) _).drew
  have hS0 : w3.drew.cell? ⟨gt, 0, none⟩ = some (.int .i8 a.1) ∧ w3.drew.cell? ⟨gt, 1, none⟩ = some (.int .i8 a.2.1) ∧ w3.drew.cell? ⟨gt, 2, none⟩ = some (.int .i8 a.2.2.1) ∧ w3.drew.cell? ⟨gt, 3, none⟩ = some (.int .i8 a.2.2.2) := ⟨hc0, hc1, hc2, hc3⟩
  have HK := Lib.hid (show ∀ W', Below w3.heap.size w3 W' → (W'.cell? ⟨gt, 0, none⟩ = some (.int .i8 a.1) ∧ W'.cell? ⟨gt, 1, none⟩ = some (.int .i8 a.2.1) ∧ W'.cell? ⟨gt, 2, none⟩ = some (.int .i8 a.2.2.1) ∧ W'.cell? ⟨gt, 3, none⟩ = some (.int .i8 a.2.2.2)) from fun W' hb => ⟨(hb.cell (p := ⟨gt, 0, none⟩) hbt).trans hc0, (hb.cell (p := ⟨gt, 1, none⟩) hbt).trans hc1, (hb.cell (p := ⟨gt, 2, none⟩) hbt).trans hc2, (hb.cell (p := ⟨gt, 3, none⟩) hbt).trans hc3⟩)
  have hw3 := Lib.hid (And.intro hb3 (Nat.le_trans hB hb3.size))
  clear hc0 hc1 hc2 hc3 hb3
  go_cut [7, 8, 9] (fun v7 v8 v9 wx => SumsCut B w3 x L L2 v7 v8 v9 wx)
  case first =>
    go_region_held3 (fun w' => w'.cell? ⟨gt, 0, none⟩ = some (.int .i8 a.1) ∧ w'.cell? ⟨gt, 1, none⟩ = some (.int .i8 a.2.1) ∧ w'.cell? ⟨gt, 2, none⟩ = some (.int .i8 a.2.2.1) ∧ w'.cell? ⟨gt, 3, none⟩ = some (.int .i8 a.2.2.2))
      (first | exact hS0 | exact HK.out _ hs3 | exact HK.out _ hs2 | exact HK.out _ hs1 | exact HK.out _ ((((hs3.setCell hg3 _).setCell hg3 _).setCell hg3 _).setCell hg3 _) | exact HK.out _ (hs3.alloc hs3.size _) | exact HK.out _ hs2x | exact HK.out _ hs1x | exact HK.out _ hbB | go_keep)
      (first
        | (go_at_call 15; (with_reducible refine (HP1.out _ hbA).mono ?_); rintro e4 w4 ⟨A4, n4, c4, rfl, hp4, hb4⟩; have hs1 := hbA.trans (hb4.mono hbA.size); have hs1x := hs1.alloc hs1.size (.cells #[.int .i64 0, .int .i64 0, .int .i64 0, .int .i64 0] 34); have hz1 := ZBox.new w4)
        | (go_at_call 15; (with_reducible refine (HP1.out _ hbB).mono ?_); rintro e4 w4 ⟨A4, n4, c4, rfl, hp4, hb4⟩; have hs1 := hbB.trans (hb4.mono hbB.size); have hy1 := (ZBox.new w3).below ((Below.drew (Below.refl _ _)).trans hb4))
        | (go_at_call 15; (with_reducible refine (HP2.out _ hs1).mono ?_); rintro e5 w5 ⟨A5, n5, c5, rfl, hp5, hb5⟩; have hy2 := hy1.below hb5; have hp45 := hp4.below hb5 (Nat.le_refl _); have hs2 := hs1.trans (hb5.mono hs1.size); have hg2 : w3.heap.size ≤ w3.heap.size := Nat.le_refl _)
        | (go_at_call 15; (with_reducible refine (HP2.out _ hs1).mono ?_); rintro e5 w5 ⟨A5, n5, c5, rfl, hp5, hb5⟩; have hp45 := hp4.below hb5 (Nat.le_refl _); have hs2 := hs1.trans (hb5.mono hs1.size); have hs2x := hs2.alloc hs2.size (.cells #[.int .i64 0, .int .i64 0, .int .i64 0, .int .i64 0] 34))
        | (go_at_call 15; (with_reducible refine (HP2.out _ hs1x).mono ?_); rintro e5 w5 ⟨A5, n5, c5, rfl, hp5, hb5⟩; have hy2 := hz1.below hb5; have hp45 := (hp4.below ((Below.refl _ _).alloc (Nat.le_refl _) _) (Nat.le_refl _)).below hb5 (Nat.le_refl _); have hs2 := hs1x.trans (hb5.mono hs1x.size); have hg2 := hs1.size)
        | (go_at_call 19; (with_reducible refine (HWD.out w5).mono ?_); rintro e6 w6 ⟨rfl, hb6⟩; have hy3 := hy2.below hb6; have hp46 := hp45.below hb6 (Nat.le_refl _); have hp56 := hp5.below hb6 (Nat.le_refl _); have hs3 := hs2.trans (hb6.mono hs2.size); have hg3 := hg2; obtain ⟨z0, z1, z2, z3, f0, f1, f2, f3⟩ := hy3.zero)
        | (go_at_call 19; (with_reducible refine (HWD.out w5).mono ?_); rintro e6 w6 ⟨rfl, hb6⟩; have hp46 := hp45.below hb6 (Nat.le_refl _); have hp56 := hp5.below hb6 (Nat.le_refl _); have hs3 := hs2.trans (hb6.mono hs2.size))
        | (go_at_call 19; (with_reducible refine (HWD.out (w5.alloc (.cells #[.int .i64 0, .int .i64 0, .int .i64 0, .int .i64 0] 34))).mono ?_); rintro e6 w6 ⟨rfl, hb6⟩; have hy3 := (ZBox.new w5).below hb6; have hp46 := (hp45.below ((Below.refl _ _).alloc (Nat.le_refl _) _) (Nat.le_refl _)).below hb6 (Nat.le_refl _); have hp56 := (hp5.below ((Below.refl _ _).alloc (Nat.le_refl _) _) (Nat.le_refl _)).below hb6 (Nat.le_refl _); have hs3 := hs2x.trans (hb6.mono hs2x.size); have hg3 := hs2.size; obtain ⟨z0, z1, z2, z3, f0, f1, f2, f3⟩ := hy3.zero))
    all_goals
      go_wp2_with fail
      go_meet
      first
        | exact SumsCut.mk (x := x) hp46 hp56 hy3 hs3 hg3 hw3.out.2
        | exact ⟨_, _, _, _, _, _, _, rfl, rfl, rfl, hp46.below ((Below.refl _ _).alloc (Nat.le_refl _) _) (Nat.le_refl _), hp56.below ((Below.refl _ _).alloc (Nat.le_refl _) _) (Nat.le_refl _), heap_alloc_new w6 _, hs3.alloc hs3.size _⟩
  case rest =>
    obtain ⟨A1, m1, k1, A3, m2, k2, gx, rfl, rfl, rfl, p1, p2, hX, hbc⟩ := hcut
    have hm1' : m1 ≤ 6 := by have h8 := p1.len; have h9 := HL.out.1; omega
    have hm2' : m2 ≤ 6 := by have h8 := p2.len; have h9 := HL.out.2; omega
    have hXl := heap_lt hX
    have hX0 : HeldX wc.drew gx x := hX.held
    have hbcd := hbc.drew
    clear hS0 hbA hbB
    go_wp2_with fail
    go_region_held3 (fun w' => HeldX w' gx x) (first | exact hX0 | exact hX8 | exact hX7 | go_keep)
      (first
        | (go_at_call 20; (with_reducible refine (HA1.out _ hbcd).mono ?_); rintro e7 w7 ⟨rfl, hb7⟩; have hX7b := hX.below ((Below.refl wc.heap.size wc).drew.trans hb7); have hX7 := hX7b.held; have hs7 := hbcd.trans (hb7.mono hbcd.size))
        | (go_at_call 20; (with_reducible refine (HA2.out _ hs7).mono ?_); rintro e8 w8 ⟨rfl, hb8⟩; have hX8b := hX7b.below hb8; have hX8 := hX8b.held))
    have hb78 := ((Below.refl wc.heap.size wc).drew.trans hb7).trans (hb8.mono hb7.size)
    have hW8 := hw3.out.1.trans ((hbc.trans (hb78.mono hbc.size)).mono hw3.out.1.size)
    have p1b := p1.below hb78 (Nat.le_refl _)
    have p2b := p2.below hb78 (Nat.le_refl _)
    have HV3 := HVA.out
    have HV4 := HVB.out
    have hbig1 : l1 L < big := lt_big (by omega)
    have hbig2 : l1 L2 < big := lt_big (by omega)
    clear p1 p2 hX hX0 hX7 hX8 hX7b hb7 hb8 hs7 hbc hbcd hb78 HA1 HA2 HP1 HP2 HWD HK hXl
    obtain ⟨va, hva⟩ : ∃ v, v = ev x L := ⟨_, rfl⟩
    obtain ⟨vb, hvb⟩ : ∃ v, v = ev x L2 := ⟨_, rfl⟩
    rw [← hva] at HV3 ⊢
    rw [← hvb] at HV4 ⊢
    have HQA := Lib.hid hva
    have HQB := Lib.hid hvb
    clear hva hvb
    obtain ⟨va1, va2⟩ := HV3
    obtain ⟨vb1, vb2⟩ := HV4
    go_wp2_with fail
    refine (addp_new B A1 A3 m1 k1 m2 k2 L L2 _ (Nat.le_trans hB hW8.size) (p1b.wide hbig1) (p2b.wide hbig2) (by unfold sortLim; omega) (lt_big (by omega))).mono ?_
    rintro e9 w9 ⟨Aa, na, ca, rfl, pa, hb9, _⟩
    have p1c := p1b.below hb9 (Nat.le_refl _)
    have p2c := p2b.below hb9 (Nat.le_refl _)
    have hX9 := hX8b.below hb9
    have hW9 := hW8.trans (hb9.mono hW8.size)
    clear p1b p2b hX8b hb9 hW8
    go_wp2_with fail
    refine (subp_new B A1 A3 m1 k1 m2 k2 L L2 _ (Nat.le_trans hB hW9.size) (p1c.wide hbig1) (p2c.wide hbig2) (by unfold sortLim; omega) (lt_big (by omega))).mono ?_
    rintro e10 w10 ⟨As, ns, cs, rfl, ps, hb10, _⟩
    have p1d := p1c.below hb10 (Nat.le_refl _)
    have p2d := p2c.below hb10 (Nat.le_refl _)
    have pad := pa.below hb10 (Nat.le_refl _)
    have hX10 := hX9.below hb10
    have hW10 := hW9.trans (hb10.mono hW9.size)
    clear p1c p2c hX9 hb10 hW9 pa
    go_wp2_with fail
    refine (normalp_any B A1 m1 k1 L _ (Nat.le_trans hB hW10.size) (p1d.wide hbig1) (by unfold sortLim; omega) hbig1).mono ?_
    rintro e11 w11 ⟨An, nn, cn, rfl, pn, hb11⟩
    have p1e := p1d.below hb11 (Nat.le_refl _)
    have p2e := p2d.below hb11 (Nat.le_refl _)
    have pae := pad.below hb11 (Nat.le_refl _)
    have pse := ps.below hb11 (Nat.le_refl _)
    have hX11 := hX10.below hb11
    have hW11 := hW10.trans (hb11.mono hW10.size)
    clear p1d p2d hX10 hb11 hW10 pad ps
    have hal := below_box2 w11 (.cells #[.slice Aa na ca, .slice As ns cs, .slice An nn cn] 26) (.cells #[.int .i64 (va + vb), .int .i64 (va - vb), .int .i64 va] 3)
    obtain ⟨W, hWW⟩ : ∃ W, W = (w11.alloc (.cells #[.slice Aa na ca, .slice As ns cs, .slice An nn cn] 26)).alloc (.cells #[.int .i64 (va + vb), .int .i64 (va - vb), .int .i64 va] 3) := ⟨_, rfl⟩
    have hl9 : W.heap[w11.heap.size]? = some (.cells #[.slice Aa na ca, .slice As ns cs, .slice An nn cn] 26 (0, 0)) := by
      rw [hWW, Below.heap_alloc _ _ _ (by simp)]; exact heap_alloc_new w11 _
    have hn9 : W.heap[w11.heap.size + 1]? = some (.cells #[.int .i64 (va + vb), .int .i64 (va - vb), .int .i64 va] 3 (0, 0)) := by
      rw [hWW]
      have := heap_alloc_new (w11.alloc (.cells #[.slice Aa na ca, .slice As ns cs, .slice An nn cn] 26)) (.cells #[.int .i64 (va + vb), .int .i64 (va - vb), .int .i64 va] 3)
      simpa using this
    rw [← hWW] at hal
    have hcl : ∀ k, W.cell? ⟨w11.heap.size, k, none⟩ = (#[.slice Aa na ca, .slice As ns cs, .slice An nn cn] : Array Value)[k]? := fun k => cell_of_row _ _ k _ _ _ hl9
    have hcn : ∀ k, W.cell? ⟨w11.heap.size + 1, k, none⟩ = (#[.int .i64 (va + vb), .int .i64 (va - vb), .int .i64 va] : Array Value)[k]? := fun k => cell_of_row _ _ k _ _ _ hn9
    have s0 : SumsAt B x w11.heap.size (w11.heap.size + 1) 0 W := ⟨Aa, na, ca, _, va + vb, hcl 0, hcn 0, pae.below hal (Nat.le_refl _), by have h8 := pae.len; have h9 := length_nf_append L L2; have h10 := HL.out; omega, nf_canon _, by have := l1_nf_append L L2; omega, (HE1.out.append HE2.out).nf, by rw [ev_add HV1.out HV2.out, HQA.out, HQB.out], by omega, by omega⟩
    have s1 : SumsAt B x w11.heap.size (w11.heap.size + 1) 1 W := ⟨As, ns, cs, _, va - vb, hcl 1, hcn 1, pse.below hal (Nat.le_refl _), by have h8 := pse.len; have h9 := length_nf_sub L L2; have h10 := HL.out; omega, nf_canon _, by have := l1_nf_sub L L2; omega, (HE1.out.append HE2.out.negL).nf, by rw [ev_sub HV1.out HV2.out, HQA.out, HQB.out], by omega, by omega⟩
    have s2 : SumsAt B x w11.heap.size (w11.heap.size + 1) 2 W := ⟨An, nn, cn, _, va, hcl 2, hcn 2, pn.below hal (Nat.le_refl _), by have h8 := pn.len; have h9 := length_nf L; have h10 := HL.out; omega, nf_canon _, by have := l1_nf L; omega, HE1.out.nf, by rw [ev_nfV HV1.out, HQA.out], by omega, by omega⟩
    have HST := Lib.hid (show SumsAt B x w11.heap.size (w11.heap.size + 1) 0 W ∧ SumsAt B x w11.heap.size (w11.heap.size + 1) 1 W ∧ SumsAt B x w11.heap.size (w11.heap.size + 1) 2 W ∧ XBox W gx x ∧ PolyC B W A1 m1 k1 L ∧ PolyC B W A3 m2 k2 L2 ∧ Below w.heap.size w W from
      ⟨s0, s1, s2, hX11.below hal, p1e.below hal (Nat.le_refl _), p2e.below hal (Nat.le_refl _), hW11.trans (hal.mono hW11.size)⟩)
    obtain ⟨gl, hgl⟩ : ∃ g, g = w11.heap.size := ⟨_, rfl⟩
    rw [← hgl] at HST
    have HGL := Lib.hid hgl
    clear s0 s1 s2 hcl hcn hl9 hn9 hX11 p1e p2e pae pse pn hal hW11
    go_wp2_with fail
    rw [← hWW, ← hgl]
    clear hWW hgl
    go_loopw [14] (fun i wr => ∃ k : Nat, k ≤ 3 ∧ i = .int .i64 k ∧ Hid (SumsAt B x gl (gl + 1) 0 wr ∧ SumsAt B x gl (gl + 1) 1 wr ∧ SumsAt B x gl (gl + 1) 2 wr ∧ XBox wr gx x ∧ PolyC B wr A1 m1 k1 L ∧ PolyC B wr A3 m2 k2 L2 ∧ Below w.heap.size w wr)) (fun i _ => 3 - (intOf i).toNat)
    case atStart => exact ⟨0, by omega, rfl, HST⟩
    case round =>
      obtain ⟨k, hk, rfl, HS⟩ := hrel
      by_cases hk3 : k < 3
      · obtain ⟨A', n', c', al', z', q0, q1, q2, q3, q4, q5, q6, q7, q8, q9⟩ : SumsAt B x gl (gl + 1) k wr := by
          match k, hk3 with
          | 0, _ => exact HS.out.1
          | 1, _ => exact HS.out.2.1
          | 2, _ => exact HS.out.2.2.1
        have j0 : (0 : Int) ≤ (k : Int) := by omega
        have j1 : (k : Int) < 3 := by omega
        have hgl1 := World.block_lt_of_cell? wr _ q0
        have hgn1 := World.block_lt_of_cell? wr _ q1
        have hgx1 := heap_lt HS.out.2.2.2.1
        have hq : wr.drew.cell? ⟨gl, k, none⟩ = some (.slice A' n' c') ∧ (wr.drew.cell? ⟨gl + 1, k, none⟩ = some (.int .i64 z') ∧ HeldX wr.drew gx x) := ⟨q0, q1, HS.out.2.2.2.1.held⟩
        have HKK := Lib.hid (show ∀ W', Below wr.drew.heap.size wr.drew W' → (W'.cell? ⟨gl, k, none⟩ = some (.slice A' n' c') ∧ (W'.cell? ⟨gl + 1, k, none⟩ = some (.int .i64 z') ∧ HeldX W' gx x)) from fun W' hb => ⟨(hb.cell (p := ⟨gl, k, none⟩) hgl1).trans q0, (hb.cell (p := ⟨gl + 1, k, none⟩) hgn1).trans q1, (HS.out.2.2.2.1.below ((Below.refl wr.heap.size wr).drew.trans hb)).held⟩)
        have hBr : B ≤ wr.drew.heap.size := Nat.le_trans hB HS.out.2.2.2.2.2.2.size
        have q2d := q2.below ((Below.refl wr.heap.size wr).drew) (Nat.le_refl _)
        have hl15 : l1 al' < big := lt_big (by omega)
        have HDE := Lib.hid (show decide (ev x al' = z') = true by rw [decide_eq_true_eq]; exact q7)
        have hbg : l1 al' * 6 ^ (4 * 3) < big := lt_big4 (Nat.lt_of_le_of_lt (Nat.mul_le_mul_right _ q5) (by decide))
        have HC4 := Lib.hid q4
        have HC6 := Lib.hid (show ∀ p ∈ al', ESmall p.2 3 from q6)
        clear q0 q1 q4 q6 q7 q2
        go_wp2_with fail
        go_region_held3 (fun w' => w'.cell? ⟨gl, k, none⟩ = some (.slice A' n' c') ∧ (w'.cell? ⟨gl + 1, k, none⟩ = some (.int .i64 z') ∧ HeldX w' gx x)) (first | exact hq | exact HKK.out _ hr1 | exact HKK.out _ hr2 | go_keep)
          (first
            | (go_at_call 23; (with_reducible refine (canonical_any B A' n' c' al' _ hBr q2d (by omega) HC4.out hl15).mono ?_); rintro e12 w12 ⟨rfl, hr1⟩; have q2e := q2d.below hr1 (Nat.le_refl _); have hBr2 := Nat.le_trans hBr hr1.size)
            | (go_at_call 24; (with_reducible refine (is_any B A' n' c' al' x z' 6 3 _ hBr2 q2e (by omega) HXS.out HC6.out (by omega) (by omega) (by omega) hbg (by omega) (by omega)).mono ?_); rw [HDE.out]; rintro e13 w13 ⟨rfl, hr3⟩; have hr2 := hr1.trans (hr3.mono hr1.size)))
        have hrr := (Below.refl wr.heap.size wr).drew.trans hr2
        have HS2 := Lib.hid (show SumsAt B x gl (gl + 1) 0 w13 ∧ SumsAt B x gl (gl + 1) 1 w13 ∧ SumsAt B x gl (gl + 1) 2 w13 ∧ XBox w13 gx x ∧ PolyC B w13 A1 m1 k1 L ∧ PolyC B w13 A3 m2 k2 L2 ∧ Below w.heap.size w w13 from
          ⟨HS.out.1.below hrr, HS.out.2.1.below hrr, HS.out.2.2.1.below hrr, HS.out.2.2.2.1.below hrr, HS.out.2.2.2.2.1.below hrr (Nat.le_refl _), HS.out.2.2.2.2.2.1.below hrr (Nat.le_refl _), HS.out.2.2.2.2.2.2.trans (hrr.mono HS.out.2.2.2.2.2.2.size)⟩)
        clear hq HKK hr1 hr2 hr3 hrr q2d q2e
        go_wp2
        go_roundw
        case rel => exact ⟨k + 1, by omega, by go_num, HS2⟩
        case measure => simp [intOf]; omega
      · obtain rfl : k = 3 := by omega
        obtain ⟨_, _, _, hX, p1, p2, hW⟩ := HS.out
        have hBr := Nat.le_trans hB hW.size
        clear HS HST HGL
        have hll : l1 L * l1 L2 ≤ 768 * 768 := Nat.mul_le_mul hl1 hl2
        have hmm : m1 * m2 ≤ 6 * 6 := Nat.mul_le_mul hm1' hm2'
        have HMM := Lib.hid hmm
        have HLL := Lib.hid hll
        go_wp2_with fail
        refine (mulp_any B A1 A3 m1 k1 m2 k2 L L2 _ hBr (p1.wide hbig1) (p2.wide hbig2) (by unfold sortLim; omega) (by unfold sortLim; omega) (by unfold sortLim; omega) hbig1 hbig2 (lt_big (by omega)) (HE1.out.ebd (by omega)) (HE2.out.ebd (by omega))).mono ?_
        rintro e14 w14 ⟨Am, nm, cm, rfl, pm, hb14⟩
        have hnm : nm ≤ 36 := by have h8 := pm.len; have h9 := length_nf_mul L L2; rw [HL.out.1, HL.out.2] at h9; have h10 := p1.len; have h11 := p2.len; have h12 := HL.out; rw [← h12.1, h10, ← h12.2, h11] at h9; omega
        have hlm : l1 (nf (prodL (nf L) (nf L2))) ≤ 589824 := Nat.le_trans (l1_nf_mul L L2) (by omega)
        have HCM := Lib.hid (nf_canon (prodL (nf L) (nf L2)))
        have HEM := Lib.hid (show ∀ p ∈ nf (prodL (nf L) (nf L2)), ESmall p.2 6 from (HE1.out.nf.prodL HE2.out.nf).nf)
        have HEV := Lib.hid (show ev x (nf (prodL (nf L) (nf L2))) = va * vb by rw [ev_mul HV1.out HV2.out, HQA.out, HQB.out])
        have hX14 := hX.below hb14
        have p1b := p1.below hb14 (Nat.le_refl _)
        have p2b := p2.below hb14 (Nat.le_refl _)
        have hW14 := hW.trans (hb14.mono hW.size)
        clear p1 p2 hX hb14 hW hmm hll hBr
        generalize nf (prodL (nf L) (nf L2)) = M at *
        have hbm : l1 M * 6 ^ (4 * 6) < big := lt_big4 (Nat.lt_of_le_of_lt (Nat.mul_le_mul_right _ hlm) (by decide))
        have HBM := Lib.hid hbm
        clear hbm
        go_wp2_with fail
        refine (canonical_any B Am nm cm M _ (Nat.le_trans hB hW14.size) pm (by omega) HCM.out (lt_big (by omega))).mono ?_
        rintro e15 w15 ⟨rfl, hb15⟩
        have hX15 := (hX14.below hb15)
        obtain ⟨x0, x1, x2, x3⟩ := hX15.held
        have pm15 := pm.below hb15 (Nat.le_refl _)
        have p1c := p1b.below hb15 (Nat.le_refl _)
        have p2c := p2b.below hb15 (Nat.le_refl _)
        have hW15 := hW14.trans (hb15.mono hW14.size)
        clear p1b p2b hX14 hb15 hW14 pm
        go_wp2_with fail
        refine (value_any B Am nm cm M x 6 6 _ (Nat.le_trans hB hW15.size) pm15 (by omega) HXS.out HEM.out (by omega) (by omega) (by omega) HBM.out).mono ?_
        rw [HEV.out]
        obtain ⟨vm, hvm⟩ : ∃ vm, vm = va * vb := ⟨_, rfl⟩
        rw [← hvm]
        have HVM := Lib.hid hvm
        clear hvm
        rintro e16 w16 ⟨Av, nv, cv, rfl, hv16, hb16⟩
        have p1d := p1c.below hb16 (Nat.le_refl _)
        have p2d := p2c.below hb16 (Nat.le_refl _)
        have hW16 := hW15.trans (hb16.mono hW15.size)
        clear p1c p2c hX15 hb16 hW15 pm15 x0 x1 x2 x3
        go_wp2_with fail
        refine (iof_any B va _ (Nat.le_trans hB hW16.size) (by omega) (by omega)).mono ?_
        rintro e17 w17 ⟨Ao, no, co, rfl, ho17, hb17⟩
        have hv17 := hv16.below hb17 (Nat.le_refl _)
        have p1e := p1d.below hb17 (Nat.le_refl _)
        have p2e := p2d.below hb17 (Nat.le_refl _)
        have hW17 := hW16.trans (hb17.mono hW16.size)
        clear p1d p2d hb17 hW16 hv16
        go_wp2_with fail
        refine (iof_any B vb _ (Nat.le_trans hB hW17.size) (by omega) (by omega)).mono ?_
        rintro e18 w18 ⟨Aq, nq, cq, rfl, hq18, hb18⟩
        have hv18 := hv17.below hb18 (Nat.le_refl _)
        have ho18 := ho17.below hb18 (Nat.le_refl _)
        have p1f := p1e.below hb18 (Nat.le_refl _)
        have p2f := p2e.below hb18 (Nat.le_refl _)
        have hW18 := hW17.trans (hb18.mono hW17.size)
        clear p1e p2e hb18 hW17 hv17 ho17
        go_wp2_with fail
        refine (imulC_any B va vb Ao Aq no co nq cq _ (Nat.le_trans hB hW18.size) ho18 hq18 (lt_big4 (by omega)) (lt_big4 (by omega))).mono ?_
        rw [← HVM.out]
        rintro e19 w19 ⟨Ar, nr, cr, rfl, hr19, hb19⟩
        have hv19 := hv18.below hb19 (Nat.le_refl _)
        have p1g := p1f.below hb19 (Nat.le_refl _)
        have p2g := p2f.below hb19 (Nat.le_refl _)
        have hW19 := hW18.trans (hb19.mono hW18.size)
        clear p1f p2f hb19 hW18 hv18 ho18 hq18
        have HCI := Lib.hid (show cmpI vm vm = 0 from cmpI_zero.2 rfl)
        go_wp2_with fail
        refine (icmpC_any B vm vm Av Ar nv cv nr cr _ hv19 hr19).mono ?_
        rw [HCI.out]
        rintro e20 w20 ⟨rfl, hb20⟩
        have p1h := p1g.below hb20 (Nat.le_refl _)
        have p2h := p2g.below hb20 (Nat.le_refl _)
        have hW20 := hW19.trans (hb20.mono hW19.size)
        clear p1g p2g hb20 hW19 hv19 hr19
        go_wp2_with fail
        refine (same_any B A1 A3 m1 k1 m2 k2 L L2 _ (Nat.le_trans hB hW20.size) (p1h.wide hbig1) (p2h.wide hbig2) (by unfold sortLim; omega) (by unfold sortLim; omega) hbig1 hbig2).mono ?_
        rintro e21 w21 ⟨rfl, hb21⟩
        have p1i := p1h.below hb21 (Nat.le_refl _)
        have p2i := p2h.below hb21 (Nat.le_refl _)
        have hW21 := hW20.trans (hb21.mono hW20.size)
        clear p1h p2h hb21 hW20
        go_wp2_with fail
        refine (normalp_any B A1 m1 k1 L _ (Nat.le_trans hB hW21.size) (p1i.wide hbig1) (by unfold sortLim; omega) hbig1).mono ?_
        rintro e22 w22 ⟨As2, ns2, cs2, rfl, ps22, hb22⟩
        have p2j := p2i.below hb22 (Nat.le_refl _)
        have hW22 := hW21.trans (hb22.mono hW21.size)
        clear p1i p2i hb22 hW21
        go_wp2_with fail
        refine (normalp_any B A3 m2 k2 L2 _ (Nat.le_trans hB hW22.size) (p2j.wide hbig2) (by unfold sortLim; omega) hbig2).mono ?_
        rintro e23 w23 ⟨At2, nt2, ct2, rfl, pt23, hb23⟩
        have ps23 := ps22.below hb23 (Nat.le_refl _)
        have hW23 := hW22.trans (hb23.mono hW22.size)
        have hns : ns2 ≤ 6 := by have h8 := ps23.len; have h9 := length_nf L; have h10 := HL.out; omega
        have hnt : nt2 ≤ 6 := by have h8 := pt23.len; have h9 := length_nf L2; have h10 := HL.out; omega
        clear p2j hb23 hW22 ps22
        go_wp2_with fail
        refine (equal_any B As2 At2 ns2 cs2 nt2 ct2 (nf L) (nf L2) _ ps23 pt23 (by omega) (by omega)).mono ?_
        rintro e24 w24 ⟨rfl, hb24⟩
        have hfin := hW23.trans (hb24.mono hW23.size)
        clear ps23 pt23 hb24 hW23
        generalize decide (nf L = nf L2) = bb at *
        have hbb : (bb == bb) = true := by simp
        go_wp2
        go_ret
        exact ⟨by first | rfl | (rw [hbb]; rfl) | simp, hfin⟩
end Go.Proofs.Ytnknidfpkmnncaa
