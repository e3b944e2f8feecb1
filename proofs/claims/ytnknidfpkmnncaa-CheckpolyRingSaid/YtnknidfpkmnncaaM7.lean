/- V5, E2, V6, V7. -/
import Derived.Test.YtnknidfpkmnncaaM6
import Derived.Test.YtnknidfpkmnncaaM4
import Derived.Deep.Slices
import Derived.ChangeSame
import Derived.OpenShut
/- checkpoly.Exact. -/
namespace Go.Proofs.Ytnknidfpkmnncaa
open Go.RowKit

set_option maxRecDepth 100000 in
set_option maxHeartbeats 8000000 in
theorem exactp_any (B : Nat) (A A2 : Option Addr) (n c n2 c2 : Nat) (al bl : List Tm) (w : World) (hB : B ≤ w.heap.size) (h : PolyW B w A n c al) (h2 : PolyW B w A2 n2 c2 bl) (hn : n < sortLim) (hn2 : n2 < sortLim) (hl : l1 al < big) (hl2 : l1 bl < big)
    (t : Tm) (d' : List Tm) (hd : nf bl = t :: d') (N : Nat) (r : Option (List Tm)) (hx : ExOk (t :: d') t N (nf al) [] r) (hN : N ≤ 1073741823) :
    Calls Try.prog 37 #[.slice A n c, .slice A2 n2 c2] w (PExP B r w) := by
  obtain ⟨i0, hi0, hz0, hz1, hz2⟩ := info_parts terminfo
  have HD := Lib.hid hd
  have HCD := Lib.hid (show Canon (t :: d') by rw [← hd]; exact nf_canon bl)
  have HX := Lib.hid hx
  have HCA := Lib.hid (nf_canon al)
  have HN1 := Lib.hid (normalp_new B A n c al w hB h hn hl)
  have HN2 := Lib.hid (fun W (hb : Below w.heap.size w W) => normalp_new B A2 n2 c2 bl W (Nat.le_trans hB hb.size) (h2.below hb (Nat.le_refl _)) hn2 hl2)
  clear hd hx h h2 hl hl2
  rw [HD.out] at HN2
  generalize nf al = a at *
  go_enter Try.func37, Try.ntmps37
  go_wp2_with fail
  refine HN1.out.mono ?_
  rintro e w1 ⟨A1, n1, c1, rfl, h1, hb1, hnew1⟩
  go_wp2_with fail
  refine (HN2.out _ hb1).mono ?_
  rintro e w2 ⟨A3, n3, c3, rfl, h3, hb2, hnew3⟩
  have h1b := h1.below hb2 (Nat.le_refl _)
  have HB2 := Lib.hid (hb1.trans (hb2.mono hb1.size))
  have hn3 : 0 < n3 := by have h4 := h3.len; simp at h4; omega
  have hn3z : ((n3 : Int) == 0) = false := by rw [beq_eq_false_iff_ne]; omega
  obtain ⟨b3, off3, rfl, hs3, HT3⟩ := h3.term hn3
  obtain ⟨tv, tp, htp, htve, hcf3, hh2, hh4⟩ := HT3 0 hn3
  obtain rfl : t = tp := by simpa using htp
  rw [Nat.zero_mul, Nat.add_zero] at hh2 hh4
  have HTVE := Lib.hid htve
  have hc3 := h3.cap
  have HT0 := Lib.hid ((HCD.out).2 t (List.mem_cons_self ..))
  have h1n := h1b.len
  have HNEW1 := Lib.hid (show ∀ ad, A1 = some ad → some ad.block ≠ (Value.slice none 0 0).ownBlock from fun ad _ he => by simp [Value.ownBlock] at he)
  have HB2s := Lib.hid hB
  clear hb1 hb2 HT3 htp htve h1 hnew1 hnew3 HN1 HN2
  have hBw2 : B ≤ w2.heap.size := Nat.le_trans hB HB2.out.size
  go_wp2
  go_loopw [6, 8] (fun rv ov wr => ∃ (M : Nat) (rest out : List Tm) (Ar : Option Addr) (nr cr : Nat) (L : List TV), rv = .slice Ar nr cr ∧ L.length + M = N ∧ PolyC B wr Ar nr cr rest ∧ Hid (∀ ad, Ar = some ad → some ad.block ≠ ov.ownBlock) ∧ M1 B w2 out ov L wr ∧ Hid (Canon rest ∧ ExOk (t :: d') t M rest out r)) (fun _ ov _ => N - slN ov)
  case atStart => exact ⟨N, a, [], A1, n1, c1, [], rfl, by simp, h1b, HNEW1, M1.start B w2, Lib.hid ⟨HCA.out, HX.out⟩⟩
  case round =>
    obtain ⟨W0, rfl⟩ : ∃ y, y = wr := ⟨_, rfl⟩
    clear h1b h1n HNEW1
    obtain ⟨M, rest, out, Ar, nr, cr, L, rfl, hLM, hp, HF, hM, HR⟩ := hrel
    obtain ⟨Ao, co, rfl⟩ := own_slice hM.own
    have hBW : B ≤ W0.heap.size := Nat.le_trans hBw2 hM.below.size
    have hcr := hp.cap
    rcases Nat.eq_zero_or_pos nr with hz | hnr
    · subst hz
      have hr0 : rest = [] := List.eq_nil_of_length_eq_zero hp.len
      subst hr0
      have hre : r = some out ∧ out.length < 1073741824 ∧ l1 out < big := by
        have h8 := HR.out.2
        cases M <;> exact h8
      have hPo : PolyC B W0 Ao L.length co out := ⟨L, Row.of_own hM.own, hM.reps⟩
      have HPo := Lib.hid (hPo.wide hre.2.2)
      have hLn : L.length < sortLim := by have h8 := hPo.len; unfold sortLim; omega
      have HRE := Lib.hid hre
      have HBM := Lib.hid (HB2.out.trans (hM.below.mono HB2.out.size))
      clear hre hPo hp hM HR HF
      go_wp2_with fail
      refine (normalp_any B Ao L.length co out _ hBW HPo.out hLn HRE.out.2.2).mono ?_
      rintro e w9 ⟨A9, n9, c9, rfl, h9, hb9⟩
      go_wp2
      go_ret2
      exact .inl ⟨out, A9, n9, c9, HRE.out.1, rfl, h9, HBM.out.trans (hb9.mono HBM.out.size)⟩
    · obtain ⟨p, rest', rfl⟩ : ∃ p rest', rest = p :: rest' := by
        have h8 := hp.len
        match rest, h8 with
        | [], h8 => simp at h8; omega
        | p :: rest', _ => exact ⟨p, rest', rfl⟩
      obtain ⟨M, rfl⟩ : ∃ M', M = M' + 1 := by
        match M, HR.out.2 with
        | 0, h8 => exact h8.elim
        | M' + 1, _ => exact ⟨M', rfl⟩
      have HE := Lib.hid (show ExBd (p :: rest') (t :: d') ∧ out.length < 1073741823 ∧ (if okQ p t then ExOk (t :: d') t M (exNext (p :: rest') (t :: d') (exQ p t)) (out ++ [exQ p t]) r else r = none) from HR.out.2)
      obtain ⟨b, off, rfl, hs1, HT1⟩ := hp.term hnr
      obtain ⟨sv, sp, hsp, hsve, hcf, hg2, hg4⟩ := HT1 0 hnr
      obtain rfl : p = sp := by simpa using hsp
      rw [Nat.zero_mul, Nat.add_zero] at hg2 hg4
      have HSVE := Lib.hid hsve
      have HCR := Lib.hid HR.out.1
      clear HT1 hsp hsve HR
      have hb := hM.below
      have hh2' := held2_below hh2 hb hs3
      have hh4' := held4_below hh4 hb hs3
      have hcf3' := hcf3.below hb (Nat.le_refl _)
      have hnr0 : decide ((0 : Int) < (nr : Int)) = true := by rw [decide_eq_true_eq]; omega
      have hnr1 : (0 : Int) < (nr : Int) := by omega
      have hn31 : (0 : Int) < (n3 : Int) := by omega
      obtain ⟨c0, c1⟩ := hg2
      obtain ⟨e2, e3, e4, e5⟩ := hg4
      have hbx : Below W0.heap.size W0 (W0.alloc (.cells #[.bool false, .slice none 0 0, .int .i64 sv.e.1, .int .i64 sv.e.2.1, .int .i64 sv.e.2.2.1, .int .i64 sv.e.2.2.2] 80)) := (Below.refl _ _).alloc (Nat.le_refl _) _
      have hTB : TBox (W0.alloc (.cells #[.bool false, .slice none 0 0, .int .i64 sv.e.1, .int .i64 sv.e.2.1, .int .i64 sv.e.2.2.1, .int .i64 sv.e.2.2.2] 80)) W0.heap.size false none 0 0 sv.e := heap_alloc_new W0 _
      have hx2 := held2_below (show Held2 W0 b off sv from ⟨c0, c1⟩) hbx hs1
      have hs3w : b3 < W0.heap.size := by have := hb.size; omega
      have hy2 := held2_below hh2' hbx hs3w
      have hdx := hcf.2.below hbx (Nat.le_refl _)
      have hdy := hcf3'.2.below hbx (Nat.le_refl _)
      go_upto_region 7 with (fail)
      obtain ⟨W, hW⟩ : ∃ W, W = (W0.alloc (.cells #[.bool false, .slice none 0 0, .int .i64 sv.e.1, .int .i64 sv.e.2.1, .int .i64 sv.e.2.2.1, .int .i64 sv.e.2.2.2] 80)) := ⟨_, rfl⟩
      obtain ⟨g, hg⟩ : ∃ g, g = W0.heap.size := ⟨_, rfl⟩
      have hgW : g < W.heap.size := by rw [hW, hg]; simp
      rw [← hW] at hx2 hy2 hdx hdy hTB hbx
      rw [← hg] at hTB
      rw [← hW, ← hg]
      have hs1W : b < W.heap.size := by have h8 := hbx.size; omega
      have hs3W : b3 < W.heap.size := by have h8 := hbx.size; omega
      have HBX := Lib.hid (And.intro hbx hg)
      have HM0 := Lib.hid hM
      have HP0 := Lib.hid hp
      have HTB := Lib.hid hTB
      obtain ⟨z, hz⟩ : ∃ z, z = exZ p.1 t.1 := ⟨_, rfl⟩
      obtain ⟨k, hk⟩ : ∃ k, k = exK p.1 t.1 := ⟨_, rfl⟩
      have HZ := Lib.hid (And.intro hz hk)
      have hBW' : B ≤ W.heap.size := Nat.le_trans hBW hbx.size
      have hsn : sv.n ≤ 536870912 := by
        rw [← hdx.len]
        have h8 := HE.out.1.l1
        have h9 : p.1.natAbs ≤ l1 (p :: rest') * (2 + l1 (t :: d')) := by
          refine Nat.le_trans ?_ (Nat.le_mul_of_pos_right _ (by omega))
          rw [l1_cons]; omega
        unfold mid at h8
        exact digs_length_le (Nat.lt_of_le_of_lt h9 h8)
      have htn : tv.n ≤ 536870912 := by
        rw [← hdy.len]
        have h8 := HE.out.1.l1
        have h9 : t.1.natAbs ≤ l1 (p :: rest') * (2 + l1 (t :: d')) := by
          refine Nat.le_trans ?_ (Nat.le_mul_of_pos_left _ ?_)
          · rw [l1_cons]; omega
          · have h7 := (HCR.out.2 p (List.mem_cons_self ..)).1
            rw [l1_cons]
            omega
        unfold mid at h8
        exact digs_length_le (Nat.lt_of_le_of_lt h9 h8)
      have HALL := Lib.hid (show ∀ W', Below W.heap.size W W' → Calls Try.prog 64 #[.agg #[.bool sv.neg, .slice sv.A sv.n sv.c], .agg #[.bool tv.neg, .slice tv.A tv.n tv.c]] W' (ExactP B z k W') from fun W' hb' => by
        have h9 := dexactC_any B p.1 t.1 sv.A tv.A sv.n sv.c tv.n tv.c W' (Nat.le_trans hBW' hb'.size) (hdx.below hb' (Nat.le_refl _)) (hdy.below hb' (Nat.le_refl _)) hsn htn HT0.out.1
        rw [← hcf.1, ← hcf3.1, ← hz, ← hk] at h9
        exact h9)
      have HCa := Lib.hid (show Calls Try.prog 64 #[.agg #[.bool sv.neg, .slice sv.A sv.n sv.c], .agg #[.bool tv.neg, .slice tv.A tv.n tv.c]] W.drew (DvA B W z k) from (HALL.out _ (Below.drew (Below.refl _ _))).mono fun e3 w3 hp => by
        obtain ⟨A3, n3, c3, he, h3, hb3⟩ := hp
        exact ⟨A3, n3, c3, he, h3, (Below.drew (Below.refl W.heap.size W)).trans (hb3.mono (Nat.le_refl _))⟩)
      have HCb := Lib.hid (show Calls Try.prog 64 #[.agg #[.bool sv.neg, .slice sv.A sv.n sv.c], .agg #[.bool tv.neg, .slice tv.A tv.n tv.c]] (W.alloc (.cells #[.bool false, .slice none 0 0] 46)).drew (DvB B W z k) from (HALL.out _ (Below.drew (Below.alloc (Below.refl _ _) (Nat.le_refl _) _))).mono fun e3 w3 hp => by
        obtain ⟨A3, n3, c3, he, h3, hb3⟩ := hp
        have hb5 : Below (W.alloc (.cells #[.bool false, .slice none 0 0] 46)).heap.size (W.alloc (.cells #[.bool false, .slice none 0 0] 46)) w3 := (Below.drew (Below.refl _ _)).trans hb3
        exact ⟨A3, n3, c3, he, h3, (Below.alloc (Below.refl W.heap.size W) (Nat.le_refl _) _).trans (hb5.mono (by simp)), (IBox.zero W).below hb5, zero2_box W hb5⟩)
      have HA0 := Lib.hid (show ∀ o, Below W.heap.size W (W.alloc o).drew from fun o => Below.drew (Below.alloc (Below.refl _ _) (Nat.le_refl _) _))
      have HSC := Lib.hid (show ∀ w3 i v, Below W.heap.size W w3 → Below W.heap.size W (w3.setCell ⟨W.heap.size, i, none⟩ v) from fun w3 i v hb => hb.setCell (Nat.le_refl _) v)
      have HSS := Lib.hid (show ∀ w3, Below W.heap.size W w3 → Held2 w3 b off sv ∧ Held2 w3 b3 off3 tv from fun w3 hb => ⟨held2_below hx2 hb hs1W, held2_below hy2 hb hs3W⟩)
      clear HALL hx2 hy2 hdx hdy hh2 hh4 hh2' hbx hTB hM hp hz hk c0 c1 e2 e3 e4 e5 hcf hcf3' hW hg hb
      have hbq := Below.refl W.heap.size W
      go_cut [10, 11] (fun v ev wx => ev = .int .i64 k ∧ ∃ gc, v = .pointer (some ⟨gc, 0, none⟩) ∧ IBox B wx gc z ∧ Below W.heap.size W wx ∧ W.heap.size ≤ gc)
      case first =>
        go_region_held3 (fun w' => Held2 w' b off sv ∧ Held2 w' b3 off3 tv) (first | (with_reducible refine HSS.out _ (HSC.out _ _ _ ?_); with_reducible exact (HSC.out _ _ _ hbq)) | with_reducible exact HSS.out _ (Below.alloc hbq hbq.size _) | with_reducible exact HSS.out _ (HA0.out _) | with_reducible exact HSS.out _ hbq | exact HSS.out _ (Below.drew (Below.refl _ _)))
          (first
            | (go_at_call 64; (with_reducible refine HCa.out.mono ?_); rintro e3 w3 ⟨A3, n3, c3, rfl, h3, hbq⟩)
            | (go_at_call 64; (with_reducible refine HCb.out.mono ?_); rintro e3 w3 ⟨A3, n3, c3, rfl, h3, hbq, hIB, z0, z1, y0, y1⟩))
        · go_wp2
          go_meet
          exact ⟨rfl, w3.heap.size, rfl, IBox.new h3, hbq.alloc hbq.size _, hbq.size⟩
        · go_wp2
          go_meet
          exact ⟨rfl, W.heap.size, rfl, hIB.store (by omega) h3, (hbq.setCell (Nat.le_refl _) _).setCell (Nat.le_refl _) _, Nat.le_refl _⟩
      case rest =>
        obtain ⟨rfl, gc, rfl, hIB, hbW, hWg⟩ := hcut
        have hb0c := HBX.out.1.trans (hbW.mono HBX.out.1.size)
        obtain ⟨d2, d3, d4, d5⟩ := held4_below hh4' hb0c hs3w
        have hgW0 : W0.heap.size ≤ g := by rw [HBX.out.2]; exact Nat.le_refl _
        have hBg : B ≤ g := Nat.le_trans hBW hgW0
        have hgc : gc ≠ g := by omega
        have HBS := Lib.hid (show ∀ j, j < 4 → 0 ≤ ex sv.e j ∧ ex sv.e j ≤ 1073741824 from fun j hj => by
          rw [HSVE.out]
          have h8 := HE.out.1.e p (List.mem_cons_self ..) j hj
          have h9 := validE_iff.1 (HCR.out.2 p (List.mem_cons_self ..)).2 j hj
          omega)
        have HBT := Lib.hid (show ∀ j, j < 4 → 0 ≤ ex tv.e j ∧ ex tv.e j ≤ 1073741824 from fun j hj => by
          rw [HTVE.out]
          have h8 := HE.out.1.de t (List.mem_cons_self ..) j hj
          have h9 := validE_iff.1 HT0.out.2 j hj
          omega)
        have hix0 := ind0 tv.e.1 tv.e.2.1 tv.e.2.2.1 tv.e.2.2.2
        have hix1 := ind1 tv.e.1 tv.e.2.1 tv.e.2.2.1 tv.e.2.2.2
        have hix2 := ind2 tv.e.1 tv.e.2.1 tv.e.2.2.1 tv.e.2.2.2
        have hix3 := ind3 tv.e.1 tv.e.2.1 tv.e.2.2.1 tv.e.2.2.2
        have hQ0 : QSt B W0 g gc z (unmix 0 sv.e tv.e) wc := ⟨HTB.out.below hbW, hIB, hb0c⟩
        clear HCa HCb HA0 HSC HSS hbq hIB hb0c hbW
        go_wp2
        clear d2 d3 d4 d5
        go_loopw [45] (fun i wr => ∃ j : Nat, j ≤ 4 ∧ i = .int .i64 j ∧ QSt B W0 g gc z (unmix j sv.e tv.e) wr) (fun i _ => 4 - (intOf i).toNat)
        case atStart => exact ⟨0, by omega, rfl, hQ0⟩
        case round =>
          obtain ⟨j, hj, rfl, hQJ⟩ := hrel
          have hbx6 := hQJ.box.six
          have hfz := hQJ.box.frozen
          obtain ⟨r0, r1, r2, r3, r4, r5⟩ := hbx6
          rcases j with _ | _ | _ | _ | j
          · have hst := hQJ.set hBg hgW0 hgc (hQJ.box.set0 (sv.e.1 - tv.e.1))
            have hb1 := HBS.out 0 (by omega)
            have hb2 := HBT.out 0 (by omega)
            have hwr : wrap64 (sv.e.1 - tv.e.1) = sv.e.1 - tv.e.1 := by simp only [ex] at hb1 hb2; unfold wrap64; omega
            have HST := Lib.hid hst
            clear hst hb1 hb2 hQ0
            replace r2 : wr.cell? ⟨g, 2, none⟩ = some (.int .i64 sv.e.1) := r2
            go_wp2
            exact ⟨⟨1, by omega, rfl, HST.out⟩, by simp [intOf]⟩
          · have hst := hQJ.set hBg hgW0 hgc (hQJ.box.set1 (sv.e.2.1 - tv.e.2.1))
            have hb1 := HBS.out 1 (by omega)
            have hb2 := HBT.out 1 (by omega)
            have hwr : wrap64 (sv.e.2.1 - tv.e.2.1) = sv.e.2.1 - tv.e.2.1 := by simp only [ex] at hb1 hb2; unfold wrap64; omega
            have HST := Lib.hid hst
            clear hst hb1 hb2 hQ0
            replace r3 : wr.cell? ⟨g, 3, none⟩ = some (.int .i64 sv.e.2.1) := r3
            go_wp2
            exact ⟨⟨2, by omega, rfl, HST.out⟩, by simp [intOf]⟩
          · have hst := hQJ.set hBg hgW0 hgc (hQJ.box.set2 (sv.e.2.2.1 - tv.e.2.2.1))
            have hb1 := HBS.out 2 (by omega)
            have hb2 := HBT.out 2 (by omega)
            have hwr : wrap64 (sv.e.2.2.1 - tv.e.2.2.1) = sv.e.2.2.1 - tv.e.2.2.1 := by simp only [ex] at hb1 hb2; unfold wrap64; omega
            have HST := Lib.hid hst
            clear hst hb1 hb2 hQ0
            replace r4 : wr.cell? ⟨g, 4, none⟩ = some (.int .i64 sv.e.2.2.1) := r4
            go_wp2
            exact ⟨⟨3, by omega, rfl, HST.out⟩, by simp [intOf]⟩
          · have hst := hQJ.set hBg hgW0 hgc (hQJ.box.set3 (sv.e.2.2.2 - tv.e.2.2.2))
            have hb1 := HBS.out 3 (by omega)
            have hb2 := HBT.out 3 (by omega)
            have hwr : wrap64 (sv.e.2.2.2 - tv.e.2.2.2) = sv.e.2.2.2 - tv.e.2.2.2 := by simp only [ex] at hb1 hb2; unfold wrap64; omega
            have HST := Lib.hid hst
            clear hst hb1 hb2 hQ0
            replace r5 : wr.cell? ⟨g, 5, none⟩ = some (.int .i64 sv.e.2.2.2) := r5
            go_wp2
            exact ⟨⟨4, by omega, rfl, HST.out⟩, by simp [intOf]⟩
          · obtain rfl : j = 0 := by omega
            obtain ⟨qe, hqe⟩ : ∃ qe, qe = subE sv.e tv.e := ⟨_, rfl⟩
            have hQ4 : QSt B W0 g gc z qe wr := by rw [hqe]; exact hQJ
            have HQE := Lib.hid (show qe = subE p.2 t.2 by rw [hqe, HSVE.out, HTVE.out])
            clear hQJ hQ0 r0 r1 r2 r3 r4 r5 hfz hix0 hix1 hix2 hix3 hqe
            obtain ⟨r0, r1, r2, r3, r4, r5⟩ := hQ4.box.six
            have hbF := HB2.out.trans ((HM0.out.below.trans (hQ4.below.mono HM0.out.below.size)).mono HB2.out.size)
            by_cases hdv : t.1 ∣ p.1
            · have hk0 : k = 0 := HZ.out.2.trans (if_pos hdv)
              have hz0' : z = p.1.tdiv t.1 := HZ.out.1.trans (if_pos hdv)
              have HZQ := Lib.hid (show (z, qe) = exQ p t by rw [hz0', HQE.out]; rfl)
              clear HZ
              subst hk0
              clear hz0'
              have HVA := Lib.hid (fun W => valid_any qe W)
              by_cases hv : validE qe = true
              · rw [hv] at HVA
                have HOK := Lib.hid (show okQ p t = true by unfold okQ; rw [Bool.and_eq_true, decide_eq_true_eq]; exact ⟨hdv, by rw [← HQE.out]; exact hv⟩)
                clear hv hdv
                go_wp2_with fail
                refine (HVA.out _).mono ?_
                rintro e w6 ⟨rfl, hb6⟩
                have hQ6 : QSt B W0 g gc z qe w6 := ⟨hQ4.box.below hb6, hQ4.ib.below hb6, hQ4.below.trans (hb6.mono hQ4.below.size)⟩
                clear hQ4 r0 r1 r2 r3 r4 r5 hb6 hbF
                obtain ⟨A7, n7, c7, k0, k1, _, _, hd7⟩ := hQ6.ib.cells
                have hfz := hQ6.box.frozen
                have hT7 := hQ6.box.coef (b' := decide (z < 0)) (A' := A7) (n' := n7) (c' := c7)
                have hd7b : Dig B ((w6.setCell ⟨g, 0, none⟩ (.bool (decide (z < 0)))).setCell ⟨g, 1, none⟩ (.slice A7 n7 c7)) A7 n7 c7 (digs z.natAbs) := (hd7.setCell (p := ⟨g, 0, none⟩) hBg hQ6.box.ty (by decide) _).setCell (p := ⟨g, 1, none⟩) hBg (hQ6.box.ty.setCell _ _) (by decide) _
                have hb7 : Below W0.heap.size W0 ((w6.setCell ⟨g, 0, none⟩ (.bool (decide (z < 0)))).setCell ⟨g, 1, none⟩ (.slice A7 n7 c7)) := (hQ6.below.setCell hgW0 _).setCell hgW0 _
                obtain ⟨W7, hW7⟩ : ∃ W7, W7 = ((w6.setCell ⟨g, 0, none⟩ (.bool (decide (z < 0)))).setCell ⟨g, 1, none⟩ (.slice A7 n7 c7)) := ⟨_, rfl⟩
                rw [← hW7] at hT7 hd7b hb7
                obtain ⟨s0, s1, _, _, _, _⟩ := hQ6.box.six
                clear hQ6 hd7
                go_upto_region 16 with (fail)
                rw [← hW7]
                clear hW7 k0 k1 hfz s0 s1
                obtain ⟨r0, r1, r2, r3, r4, r5⟩ := hT7.six
                have hal : Below W7.heap.size W7 (W7.alloc (.cells #[.bool (decide (z < 0)), .slice A7 n7 c7, .int .i64 qe.1, .int .i64 qe.2.1, .int .i64 qe.2.2.1, .int .i64 qe.2.2.2] 80)) := (Below.refl _ _).alloc (Nat.le_refl _) _
                have hM8 := (HM0.out.later hb7).later hal
                have hT8 := hT7.below hal
                have hd8 := hd7b.below hal (Nat.le_refl _)
                have hp8 := (HP0.out.below hb7 (Nat.le_refl _)).below hal (Nat.le_refl _)
                have h38 := h3.below hM8.below (Nat.le_refl _)
                have HOB := Lib.hid (And.intro (show ∀ x, (Value.slice Ao L.length co).ownBlock = some x → w2.heap.size ≤ x from fun x hx => own_base HM0.out.own x hx) (show ∀ x, (Value.slice Ao L.length co).ownBlock = some x → x < W0.heap.size from fun x hx => own_lt HM0.out.own x hx))
                have hw27 : w2.heap.size ≤ W7.heap.size := Nat.le_trans HM0.out.below.size hb7.size
                have hLn : L.length ≤ 1073741823 := by omega
                have HB7 := Lib.hid hb7
                clear hd7b hT7
                go_upto_region 17 with (at_builtin; refine wpList_append_lies _ rfl _ _ _ rfl w2.heap.size 80 i0 _ 6 64 Try.underlying26 hi0 hz0 hz1 hz2 rfl (by omega) (.slice Ao L.length co) L.length (flat L) rfl hM8.own ⟨W7.heap.size, 0, none⟩ 1 1 (flat [⟨decide (z < 0), A7, n7, c7, qe⟩]) rfl rfl (World.news_of_block (cs := #[.bool (decide (z < 0)), .slice A7 n7 c7, .int .i64 qe.1, .int .i64 qe.2.1, .int .i64 qe.2.2.1, .int .i64 qe.2.2.2]) (t := 80) (fr := (0, 0)) (heap_alloc_new W7 _)) (flat_one _) (by omega) (by simp only [maxLen]; omega) (by omega) (by simp; omega) (W7.heap.size + 1) (by simp) ?_; intro gg cap w8 hown8 hgrow hat hlt8)
                have hM9 := hM8.push (p := (z, qe)) (t := ⟨decide (z < 0), A7, n7, c7, qe⟩) rfl hown8 hgrow ⟨rfl, hd8⟩ (by omega)
                have hT9 := hT8.grown hgrow (fun e => by have h8 := HOB.out.2 g e.symm; have h7 := HBX.out.2; omega)
                have hp9 := hp8.grownFar hM8.own hgrow (by omega) HF.out
                have h39 := h38.grownFar hM8.own hgrow (by omega) (fun ad ha e => by
                  injection ha with ha
                  subst ha
                  have h8 := HOB.out.1 b3 e.symm
                  omega)
                have hd9 : CoefC B w8 ⟨decide (z < 0), A7, n7, c7, qe⟩ z := CoefC.grown (t := ⟨decide (z < 0), A7, n7, c7, qe⟩) ⟨rfl, hd8⟩ hM8.own hgrow (by omega) (by decide)
                have hgl8 : gg < w8.heap.size := own_lt hown8 gg rfl
                clear hM8 hT8 hd8 hp8 h38 hgrow hat hown8 hal r0 r1 r2 r3 r4 r5 HB7 hb7 HOB
                obtain ⟨r0, r1, r2, r3, r4, r5⟩ := hT9.six
                replace r0 : w8.cell? ⟨g, 0, none⟩ = some (.bool (decide (z < 0))) := r0
                replace r1 : w8.cell? ⟨g, 1, none⟩ = some (.slice A7 n7 c7) := r1
                replace r2 : w8.cell? ⟨g, 2, none⟩ = some (.int .i64 qe.1) := r2
                replace r3 : w8.cell? ⟨g, 3, none⟩ = some (.int .i64 qe.2.1) := r3
                replace r4 : w8.cell? ⟨g, 4, none⟩ = some (.int .i64 qe.2.2.1) := r4
                replace r5 : w8.cell? ⟨g, 5, none⟩ = some (.int .i64 qe.2.2.2) := r5
                have hw28 : w2.heap.size ≤ w8.heap.size := hM9.below.size
                have hal9 : Below w8.heap.size w8 (w8.alloc (.cells #[.bool (decide (z < 0)), .slice A7 n7 c7, .int .i64 qe.1, .int .i64 qe.2.1, .int .i64 qe.2.2.1, .int .i64 qe.2.2.2] 80)) := (Below.refl _ _).alloc (Nat.le_refl _) _
                have hone := PolyC.single hd9.2 qe
                obtain ⟨f1, f2, f3, f4, f5, f6, f7⟩ := exBd_facts HE.out.1 HZQ.out (HCR.out.2 p (List.mem_cons_self ..)).1
                have hdl : (t :: d').length = n3 := h3.len
                have hrl : (p :: rest').length = nr := HP0.out.len
                have HLen := Lib.hid (show nr + n3 ≤ 536870912 by have h8 := HE.out.1.len; omega)
                have HMU := Lib.hid (mulp_any B (some ⟨w8.heap.size, 0, none⟩) (some ⟨b3, off3, none⟩) 1 1 n3 c3 [(z, qe)] (t :: d') _ (by simp; omega) (hone.wide f1) ((h39.below hal9 (Nat.le_refl _)).wide f2) (by unfold sortLim; omega) (by unfold sortLim; have := HLen.out; omega) (by unfold sortLim; have := HLen.out; omega) f1 f2 f4 (by
                  intro q hq j hj
                  rw [List.mem_singleton.1 hq]
                  show ex qe j ≤ _
                  have h8 := HBS.out j hj
                  have h9 := HBT.out j hj
                  rw [HQE.out, ex_subE, ← HSVE.out, ← HTVE.out]
                  omega) (HE.out.1.de.ebd (Nat.le_refl _)))
                have hp9' := hp9.below hal9 (Nat.le_refl _)
                have hM9' := hM9.later hal9
                have HF3 := Lib.hid f3
                have HF5 := Lib.hid (And.intro f5 f7)
                have HF6 := Lib.hid (show (mulL [(z, qe)] (t :: d')).length ≤ n3 by rw [← hdl]; exact f6)
                clear f1 f2 f3 f4 f5 f6 f7 hone hp9 hM9 hdl hrl h39 hd9 hT9
                go_wp2_with fail
                refine HMU.out.mono ?_
                rintro e w10 ⟨A10, n10, c10, rfl, h10, hb10⟩
                have hp10 := hp9'.below hb10 (Nat.le_refl _)
                have hn10 : n10 ≤ n3 := by have h8 := h10.len; have h9 := HF6.out; unfold mulL at h9; omega
                have HSU := Lib.hid (subp_new B (some ⟨b, off, none⟩) A10 nr cr n10 c10 (p :: rest') (mulL [(z, qe)] (t :: d')) _ (by have := hal9.size; have := hb10.size; omega) (hp10.wide HF3.out) (PolyC.wide (al := mulL [(z, qe)] (t :: d')) h10 HF5.out.2) (by unfold sortLim; have := HLen.out; omega) HF5.out.1)
                have hM10 := hM9'.later hb10
                have hgl10 : gg < w10.heap.size := by have := hal9.size; have := hb10.size; omega
                clear hp9' hp10 h10 hM9' hal9 hb10 HMU r0 r1 r2 r3 r4 r5
                go_wp2_with fail
                refine HSU.out.mono ?_
                rintro e w11 ⟨A11, n11, c11, rfl, h11, hb11, hnew⟩
                have hM11 := hM10.later hb11
                have HNW := Lib.hid (show ∀ ad, A11 = some ad → some ad.block ≠ (Value.slice (some ⟨gg, 0, none⟩) (L.length + 1) cap).ownBlock from fun ad ha e => by
                  have h8 := hnew ad ha
                  have h9 : ad.block = gg := by simpa [Value.ownBlock] using e
                  omega)
                have HR2 := Lib.hid (show Canon (exNext (p :: rest') (t :: d') (z, qe)) ∧ ExOk (t :: d') t M (exNext (p :: rest') (t :: d') (z, qe)) (out ++ [(z, qe)]) r from ⟨exNext_canon _ _ _, by
                  have h8 := HE.out.2.2
                  rw [if_pos HOK.out, ← HZQ.out] at h8
                  exact h8⟩)
                clear hM10 hb11 hnew HSU
                go_wp2
                go_roundw
                case rel => exact ⟨M, exNext (p :: rest') (t :: d') (z, qe), out ++ [(z, qe)], A11, n11, c11, L ++ [⟨decide (z < 0), A7, n7, c7, qe⟩], rfl, by rw [List.length_append, List.length_singleton]; omega, h11, HNW, hM11, HR2⟩
                case measure => simp [slN]; omega
              · have hv' : validE qe = false := by simpa using hv
                rw [hv'] at HVA
                have hok : okQ p t = false := by unfold okQ; rw [← HQE.out, hv', Bool.and_false]
                have HRN := Lib.hid (show r = none by have h8 := HE.out.2.2; rw [hok] at h8; simpa using h8)
                have HBF := Lib.hid hbF
                clear hv hv' hok hdv hbF
                go_wp2_with fail
                refine (HVA.out _).mono ?_
                rintro e w6 ⟨rfl, hb6⟩
                go_wp2
                go_ret2
                exact .inr ⟨HRN.out, rfl, HBF.out.trans (hb6.mono HBF.out.size)⟩
            · have hk0 : k = 3 := HZ.out.2.trans (if_neg hdv)
              have hok : okQ p t = false := by unfold okQ; rw [decide_eq_false hdv, Bool.false_and]
              have HRN := Lib.hid (show r = none by have h8 := HE.out.2.2; rw [hok] at h8; simpa using h8)
              have HBF := Lib.hid hbF
              clear HZ
              subst hk0
              clear hok hdv hbF hQ4 r0 r1 r2 r3 r4 r5
              go_wp2
              go_ret2
              exact .inr ⟨HRN.out, rfl, HBF.out⟩
end Go.Proofs.Ytnknidfpkmnncaa
/- The drawn polynomials as the claims give them. -/
namespace Go.Proofs.Ytnknidfpkmnncaa
open Go.RowKit Go.ChangeShapes Go.WideShapes Go.Deep

theorem monoCells : Try.prog.cellsOf 78 = 5 := by kernel_rfl
theorem i8Cells : Try.prog.cellsOf 32 = 1 := by kernel_rfl
theorem expCells : Try.prog.cellsOf 76 = 4 := by kernel_rfl
theorem u8Cells : Try.prog.cellsOf 5 = 1 := by kernel_rfl
section
variable {H : Type} {enc : TypeId × Value → H} {W : World}
set_option maxRecDepth 100000 in
/-- One element's cells. -/
theorem open_mono {fuel : Nat} {cs : List Value} {x : DataW H × List MemPlace} {spare : Nat → Bool} {held : Bool} {base : Nat} (h : DataW.trod enc Try.prog W base spare held fuel 78 cs = some x) :
    ∃ m : Mono, cs = [.int .i8 m.1, .int .u8 m.2.1, .int .u8 m.2.2.1, .int .u8 m.2.2.2.1, .int .u8 m.2.2.2.2] ∧ MonoOk m := by
  obtain ⟨xs, n, rfl, hx, hl, hxl, hf⟩ := DataW.trod_struct Try.underlying78 h
  rw [monoCells] at hl
  match cs, hl with
  | [c0, c1, c2, c3, c4], _ =>
    have h0 : DataW.trod enc Try.prog W base spare held n 32 (([c0, c1, c2, c3, c4].drop 0).take (Try.prog.cellsOf 32)) = xs[0]? := hf 0 _ rfl
    have h1 : DataW.trod enc Try.prog W base spare held n 76 (([c0, c1, c2, c3, c4].drop 1).take (Try.prog.cellsOf 76)) = xs[1]? := hf 1 _ rfl
    rw [i8Cells] at h0
    rw [expCells] at h1
    have hs : xs.length = 2 := hxl
    rw [List.getElem?_eq_getElem (by omega)] at h0 h1
    obtain ⟨z, hz, _, hzw⟩ := DataW.trod_int Try.underlying32 h0
    obtain ⟨ys, k, rfl, hy, _, hyl, hg⟩ := DataW.trod_array Try.underlying76 h1
    rw [u8Cells] at hg
    have g0 := hg 0 (by omega)
    have g1 := hg 1 (by omega)
    have g2 := hg 2 (by omega)
    have g3 := hg 3 (by omega)
    rw [List.getElem?_eq_getElem (by omega)] at g0 g1 g2 g3
    obtain ⟨e0, he0, _, hw0⟩ := DataW.trod_int Try.underlying5 g0
    obtain ⟨e1, he1, _, hw1⟩ := DataW.trod_int Try.underlying5 g1
    obtain ⟨e2, he2, _, hw2⟩ := DataW.trod_int Try.underlying5 g2
    obtain ⟨e3, he3, _, hw3⟩ := DataW.trod_int Try.underlying5 g3
    simp at hz he0 he1 he2 he3
    subst hz he0 he1 he2 he3
    simp [Lit.wf, IntKind.wrap, IntKind.bits, IntKind.signed] at hzw hw0 hw1 hw2 hw3
    have q1 : IntKind.i8.min = -128 := rfl
    have q2 : IntKind.i8.max = 127 := rfl
    have q3 : IntKind.u8.min = 0 := rfl
    have q4 : IntKind.u8.max = 255 := rfl
    refine ⟨(z, e0, e1, e2, e3), rfl, by show -128 ≤ z; omega, by show z ≤ 127; omega, fun j => ?_⟩
    match j with
    | 0 => show 0 ≤ e0 ∧ e0 ≤ 255; omega
    | 1 => show 0 ≤ e1 ∧ e1 ≤ 255; omega
    | 2 => show 0 ≤ e2 ∧ e2 ≤ 255; omega
    | _ + 3 => show 0 ≤ e3 ∧ e3 ≤ 255; omega
def monoCs (m : Mono) : List Value := [.int .i8 m.1, .int .u8 m.2.1, .int .u8 m.2.2.1, .int .u8 m.2.2.2.1, .int .u8 m.2.2.2.2]
theorem flatM_inv (L : List Mono) : ∀ (k : Nat) (u : Value), (flatM L)[k]? = some u → ∃ i j m, L[i]? = some m ∧ j < 5 ∧ k = i * 5 + j ∧ (monoCs m)[j]? = some u := by
  induction L with
  | nil => intro k u h; simp [flatM] at h
  | cons m L ih =>
    intro k u h
    have e : flatM (m :: L) = monoCs m ++ flatM L := rfl
    rw [e] at h
    rcases Nat.lt_or_ge k 5 with hk | hk
    · rw [List.getElem?_append_left (by exact hk)] at h
      exact ⟨0, k, m, rfl, hk, by omega, h⟩
    · rw [List.getElem?_append_right (by exact hk)] at h
      obtain ⟨i, j, m', h1, h2, h3, h4⟩ := ih _ _ h
      have h5 : (monoCs m).length = 5 := rfl
      exact ⟨i + 1, j, m', by simpa using h1, h2, by omega, h4⟩
theorem flatM_length (L : List Mono) : (flatM L).length = L.length * 5 := by
  induction L with
  | nil => rfl
  | cons m L ih =>
    have e : flatM (m :: L) = monoCs m ++ flatM L := rfl
    rw [e, List.length_append, ih, List.length_cons]
    have h5 : (monoCs m).length = 5 := rfl
    omega
theorem open_monos {fuel : Nat} {v : Value} {x : DataW H × List MemPlace} {spare : Nat → Bool} {held : Bool} {base : Nat} (h : DataW.trod enc Try.prog W base spare held fuel 22 [v] = some x) :
    ∃ A n c L, v = .slice A n c ∧ MonoR W.heap.size W A n c L := by
  rcases open_slice Try.underlying22 h with ⟨hc, _⟩ | ⟨a, len, cap, m, n, D, Pl, hc, _, hl, hm, hmm, _, hall⟩
  · simp only [List.cons.injEq, and_true] at hc
    exact ⟨none, 0, 0, [], hc, Row.nil, rfl, fun m hm => by cases hm⟩
  · simp only [List.cons.injEq, and_true] at hc
    rw [monoCells] at hall
    have hml : len ≤ m := by rw [hmm]; split <;> omega
    have hch : ∀ i, ∃ mo : Mono, i < len → W.cells? base (a.add (i * 5)) 5 = some (monoCs mo) ∧ MonoOk mo := fun i => by
      by_cases hi : i < len
      · obtain ⟨cs', h1, h2⟩ := hall i (by omega)
        obtain ⟨mo, rfl, h4⟩ := open_mono h2
        exact ⟨mo, fun _ => ⟨h1, h4⟩⟩
      · exact ⟨(0, 0, 0, 0, 0), fun h => absurd h hi⟩
    obtain ⟨f, hf⟩ := Classical.axiomOfChoice hch
    refine ⟨some a, len, cap, (List.range len).map f, hc, ⟨?_, hl, ?_, fun hpos => ⟨a, rfl, ?_, fun k u hu => ?_⟩⟩, by simp, fun mo hmo => ?_⟩
    · rw [flatM_length]; simp
    · exact hm
    · left
      obtain ⟨_, _, h3⟩ := World.cells?_some (hf 0 hpos).1
      have h4 := h3 0 (by decide)
      have := World.block_lt_of_cell? W _ h4
      rwa [block_of_add, block_of_add] at this
    · obtain ⟨i, j, mo, h1, h2, rfl, h4⟩ := flatM_inv _ _ _ hu
      rw [List.getElem?_map] at h1
      have hi : i < len := by
        rcases Nat.lt_or_ge i len with hi | hi
        · exact hi
        · rw [List.getElem?_eq_none (by simpa using hi)] at h1; cases h1
      rw [List.getElem?_range hi] at h1
      injection h1 with h1
      obtain ⟨_, _, h3⟩ := World.cells?_some (hf i hi).1
      have h5 := h3 j h2
      rw [add_of_add] at h5
      rw [h5, ← h4, ← h1]
    · obtain ⟨i, hi, rfl⟩ := List.mem_map.1 hmo
      exact (hf i (by simpa using hi)).2
end
end Go.Proofs.Ytnknidfpkmnncaa
/- Many polynomials at one time: calls of checkpoly's functions among them. -/
namespace Go.Proofs.Ytnknidfpkmnncaa
open Go.RowKit

def zE : Ex := (0, 0, 0, 0)
/-- A constant. -/
def constL (z : Int) : List Tm := nf [(z, zE)]
set_option maxHeartbeats 1000000 in
theorem const_any (B : Nat) (z : Int) (A : Option Addr) (n c : Nat) (w : World) (hB : B ≤ w.heap.size) (h : Dig B w A n c (digs z.natAbs)) (hz : z.natAbs < big) :
    Calls Try.prog 63 #[.agg #[.bool (decide (z < 0)), .slice A n c]] w (PolyP B (constL z) w) := by
  have h1 := PolyC.one h (.cells #[.bool (decide (z < 0)), .slice A n c] 46) zE _ rfl
  have hbw := below_box2 w (.cells #[.bool (decide (z < 0)), .slice A n c] 46) (.cells #[.bool (decide (z < 0)), .slice A n c, .int .i64 zE.1, .int .i64 zE.2.1, .int .i64 zE.2.2.1, .int .i64 zE.2.2.2] 80)
  have hl : l1 [(z, zE)] < big := by rw [l1_cons, l1_nil]; exact hz
  have HN := Lib.hid (normalp_any B _ _ _ [(z, zE)] _ (by have := hbw.size; omega) (h1.wide hl) (by unfold sortLim; omega) hl)
  have HB := Lib.hid hbw
  clear h1 hbw hl h hz
  go_enter Try.func63, Try.ntmps63
  go_wp2_with fail
  refine HN.out.mono ?_
  rintro e w1 ⟨A1, n1, c1, rfl, h1, hb1⟩
  go_wp2
  go_ret
  exact ⟨_, _, _, rfl, h1, HB.out.trans (hb1.mono HB.out.size)⟩
theorem num_any (B : Nat) (z : Int) (w : World) (hB : B ≤ w.heap.size) (h0 : -9223372036854775808 ≤ z) (h1 : z ≤ 9223372036854775807) :
    Calls Try.prog 36 #[.int .i64 z] w (PolyP B (constL z) w) := by
  go_enter Try.func36, Try.ntmps36
  go_wp2_with fail
  refine (iof_any B z _ hB h0 h1).mono ?_
  rintro e w1 ⟨A1, n1, c1, rfl, h1, hb1⟩
  have HC := Lib.hid (const_any B z A1 n1 c1 w1 (Nat.le_trans hB hb1.size) h1 (lt_big4 (by omega)))
  go_wp2_with fail
  refine HC.out.mono ?_
  rintro e w2 ⟨A2, n2, c2, rfl, h2, hb2⟩
  go_wp2
  go_ret
  exact ⟨_, _, _, rfl, h2, hb1.trans (hb2.mono hb1.size)⟩

/-- Bounds of a polynomial: of its terms' number, of the sum of the coefficients, of the exponents. -/
structure Fit (al : List Tm) (N L E : Nat) : Prop where
  len : al.length ≤ N
  l1 : l1 al ≤ L
  e : AllE al E
  v : AllV al
theorem Fit.nf {al : List Tm} {N L E : Nat} (h : Fit al N L E) : Fit (nf al) N L E := ⟨Nat.le_trans (length_nf _) h.len, Nat.le_trans (l1_nf _) h.l1, h.e.nf, AllV.nf _⟩
theorem Fit.mono {al : List Tm} {N L E N' L' E' : Nat} (h : Fit al N L E) (hN : N ≤ N') (hL : L ≤ L') (hE : E ≤ E') : Fit al N' L' E' := ⟨Nat.le_trans h.len hN, Nat.le_trans h.l1 hL, h.e.mono hE, h.v⟩
theorem Fit.mul {a b : List Tm} {N L E N' L' E' : Nat} (h : Fit a N L E) (h' : Fit b N' L' E') : Fit (mulL a b) (N * N') (L * L') (E + E') :=
  ⟨Nat.le_trans (length_nf_mul _ _) (Nat.mul_le_mul h.len h'.len), Nat.le_trans (l1_nf_mul _ _) (Nat.mul_le_mul h.l1 h'.l1), (h.e.nf.prodL h'.e.nf).nf, AllV.mulL _ _⟩
theorem Fit.add {a b : List Tm} {N L E N' L' E' : Nat} (h : Fit a N L E) (h' : Fit b N' L' E') : Fit (Go.Proofs.Ytnknidfpkmnncaa.nf (a ++ b)) (N + N') (L + L') (max E E') :=
  ⟨Nat.le_trans (length_nf_append _ _) (Nat.add_le_add h.len h'.len), Nat.le_trans (l1_nf_append _ _) (Nat.add_le_add h.l1 h'.l1), ((h.e.mono (Nat.le_max_left _ _)).append (h'.e.mono (Nat.le_max_right _ _))).nf, AllV.nf _⟩
theorem Fit.sub {a b : List Tm} {N L E N' L' E' : Nat} (h : Fit a N L E) (h' : Fit b N' L' E') : Fit (Go.Proofs.Ytnknidfpkmnncaa.nf (a ++ negL b)) (N + N') (L + L') (max E E') :=
  ⟨Nat.le_trans (length_nf_sub _ _) (Nat.add_le_add h.len h'.len), Nat.le_trans (l1_nf_sub _ _) (Nat.add_le_add h.l1 h'.l1), ((h.e.mono (Nat.le_max_left _ _)).append (h'.e.mono (Nat.le_max_right _ _)).negL).nf, AllV.nf _⟩
theorem zE_valid : validE zE = true := by decide
theorem fit_const (z : Int) (M : Nat) (h : z.natAbs ≤ M) : Fit (constL z) 1 M 0 :=
  Fit.nf ⟨Nat.le_refl _, by rw [l1_cons, l1_nil]; exact h, fun p hp j hj => by
    rw [List.mem_singleton.1 hp]
    match j, hj with
    | 0, _ => exact Nat.le_refl 0
    | 1, _ => exact Nat.le_refl 0
    | 2, _ => exact Nat.le_refl 0
    | 3, _ => exact Nat.le_refl 0, fun p hp => by rw [List.mem_singleton.1 hp]; exact zE_valid⟩
theorem fit_var (i : Nat) (h1 : 1 ≤ i) (h4 : i ≤ 4) : Fit (varL i) 1 1 1 := by
  have h : ∀ i, i ≤ 4 → 1 ≤ i → (varL i).length ≤ 1 ∧ l1 (varL i) ≤ 1 ∧ (∀ p ∈ varL i, ∀ j, j < 4 → (ex p.2 j).toNat ≤ 1) ∧ (∀ p ∈ varL i, validE p.2 = true) := by decide
  obtain ⟨a, b, c, d⟩ := h i h4 h1
  exact ⟨a, b, c, d⟩

/-- A slice that bears a polynomial, and the polynomial's bounds. -/
structure PV where
  A : Option Addr
  n : Nat
  c : Nat
  al : List Tm
  N : Nat
  L : Nat
  E : Nat
def PV.Ok (B : Nat) (w : World) (x : PV) : Prop := PolyC B w x.A x.n x.c x.al ∧ Fit x.al x.N x.L x.E
structure Env (B : Nat) (W w : World) (l : List PV) : Prop where
  all : ∀ (i : Nat) (x : PV), l[i]? = some x → x.Ok B w
  bel : Below W.heap.size W w
  base : B ≤ W.heap.size
section
variable {B : Nat} {W w w' : World} {l : List PV} {e : Ending}
theorem Env.start (hB : B ≤ w.heap.size) : Env B w w [] := ⟨fun i x h => by simp at h, Below.refl _ _, hB⟩
theorem Env.next (h : Env B W w l) (hb : Below w.heap.size w w') : Env B W w' l :=
  ⟨fun i x hx => ⟨(h.all i x hx).1.below hb (Nat.le_refl _), (h.all i x hx).2⟩, h.bel.trans (hb.mono h.bel.size), h.base⟩
theorem Env.le (h : Env B W w l) : B ≤ w.heap.size := Nat.le_trans h.base h.bel.size
theorem Env.push (h : Env B W w l) {x : PV} (hx : x.Ok B w) : Env B W w (x :: l) :=
  ⟨fun i y hy => by
    match i, hy with
    | 0, hy => obtain rfl : x = y := by simpa using hy
               exact hx
    | i + 1, hy => exact h.all i y (by simpa using hy), h.bel, h.base⟩
theorem Env.n_le (h : Env B W w l) {i : Nat} {x : PV} (hx : l[i]? = some x) : x.n ≤ x.N ∧ x.al.length = x.n := by
  have h1 := h.all i x hx
  have h2 := h1.1.len
  exact ⟨by rw [← h2]; exact h1.2.len, h2⟩
/-- The bounds let calls in. -/
def PV.small (x : PV) : Prop := x.N < 1073741824 ∧ x.L < 340282366920938463463374607431768211456 ∧ x.E ≤ 1073741824
theorem Env.wide (h : Env B W w l) {i : Nat} {x : PV} (hx : l[i]? = some x) (hs : x.small) : PolyW B w x.A x.n x.c x.al ∧ x.n < sortLim ∧ l1 x.al < big ∧ Ebd x.al := by
  have h1 := h.all i x hx
  have h2 := h.n_le hx
  have hl : l1 x.al < big := Nat.lt_of_le_of_lt h1.2.l1 (lt_big4 hs.2.1)
  exact ⟨h1.1.wide hl, by unfold sortLim; have := hs.1; omega, hl, h1.2.e.ebd hs.2.2⟩
/-- What a call returns: a new polynomial. -/
def EnvP (B : Nat) (W : World) (l : List PV) (al : List Tm) (N L E : Nat) (e : Ending) (w' : World) : Prop :=
  ∃ A n c, e = .returned (.slice A n c) ∧ Env B W w' (⟨A, n, c, al, N, L, E⟩ :: l)
/-- .. a value. -/
def EnvV (B : Nat) (W : World) (l : List PV) (v : Value) (e : Ending) (w' : World) : Prop :=
  e = .returned v ∧ Env B W w' l
theorem Env.polyP (h : Env B W w l) {al : List Tm} {N L E : Nat} (hp : PolyP B al w e w') (hf : Fit al N L E) : EnvP B W l al N L E e w' := by
  obtain ⟨A, n, c, he, h1, h2⟩ := hp
  exact ⟨A, n, c, he, (h.next h2).push ⟨h1, hf⟩⟩
theorem Env.valP (h : Env B W w l) {v : Value} (hp : ValP v w e w') : EnvV B W l v e w' := ⟨hp.1, h.next hp.2⟩
theorem Env.mul (h : Env B W w l) {i j : Nat} {x y : PV} (hx : l[i]? = some x) (hy : l[j]? = some y) (hs : x.small) (hs2 : y.small) (hn : x.N * y.N < 1073741824) (hl : x.L * y.L < 340282366920938463463374607431768211456) :
    Calls Try.prog 25 #[.slice x.A x.n x.c, .slice y.A y.n y.c] w (EnvP B W l (mulL x.al y.al) (x.N * y.N) (x.L * y.L) (x.E + y.E)) := by
  obtain ⟨p1, n1, l1', e1⟩ := h.wide hx hs
  obtain ⟨p2, n2, l2', e2⟩ := h.wide hy hs2
  have f1 := (h.all i x hx).2
  have f2 := (h.all j y hy).2
  refine (mulp_any B x.A y.A x.n x.c y.n y.c x.al y.al w h.le p1 p2 n1 n2 ?_ l1' l2' ?_ e1 e2).mono fun e w' hp => h.polyP hp (f1.mul f2)
  · have h3 : x.n * y.n ≤ x.N * y.N := Nat.mul_le_mul (h.n_le hx).1 (h.n_le hy).1
    unfold sortLim; omega
  · exact Nat.lt_of_le_of_lt (Nat.mul_le_mul f1.l1 f2.l1) (lt_big4 hl)
theorem Env.add (h : Env B W w l) {i j : Nat} {x y : PV} (hx : l[i]? = some x) (hy : l[j]? = some y) (hs : x.small) (hs2 : y.small) (hn : x.N + y.N < 1073741824) (hl : x.L + y.L < 340282366920938463463374607431768211456) :
    Calls Try.prog 21 #[.slice x.A x.n x.c, .slice y.A y.n y.c] w (EnvP B W l (nf (x.al ++ y.al)) (x.N + y.N) (x.L + y.L) (max x.E y.E)) := by
  obtain ⟨p1, n1, l1', e1⟩ := h.wide hx hs
  obtain ⟨p2, n2, l2', e2⟩ := h.wide hy hs2
  have f1 := (h.all i x hx).2
  have f2 := (h.all j y hy).2
  refine (addp_new B x.A y.A x.n x.c y.n y.c x.al y.al w h.le p1 p2 ?_ ?_).mono fun e w' hp => h.polyP hp.polyP (f1.add f2)
  · have h3 := (h.n_le hx).1
    have h4 := (h.n_le hy).1
    unfold sortLim; omega
  · exact Nat.lt_of_le_of_lt (Nat.add_le_add f1.l1 f2.l1) (lt_big4 hl)
theorem Env.sub (h : Env B W w l) {i j : Nat} {x y : PV} (hx : l[i]? = some x) (hy : l[j]? = some y) (hs : x.small) (hs2 : y.small) (hn : x.N + y.N < 1073741824) (hl : x.L + y.L < 340282366920938463463374607431768211456) :
    Calls Try.prog 22 #[.slice x.A x.n x.c, .slice y.A y.n y.c] w (EnvP B W l (nf (x.al ++ negL y.al)) (x.N + y.N) (x.L + y.L) (max x.E y.E)) := by
  obtain ⟨p1, n1, l1', e1⟩ := h.wide hx hs
  obtain ⟨p2, n2, l2', e2⟩ := h.wide hy hs2
  have f1 := (h.all i x hx).2
  have f2 := (h.all j y hy).2
  refine (subp_new B x.A y.A x.n x.c y.n y.c x.al y.al w h.le p1 p2 ?_ ?_).mono fun e w' hp => h.polyP hp.polyP (f1.sub f2)
  · have h3 := (h.n_le hx).1
    have h4 := (h.n_le hy).1
    unfold sortLim; omega
  · exact Nat.lt_of_le_of_lt (Nat.add_le_add f1.l1 f2.l1) (lt_big4 hl)
theorem Env.normal (h : Env B W w l) {i : Nat} {x : PV} (hx : l[i]? = some x) (hs : x.small) :
    Calls Try.prog 14 #[.slice x.A x.n x.c] w (EnvP B W l (nf x.al) x.N x.L x.E) := by
  obtain ⟨p1, n1, l1', e1⟩ := h.wide hx hs
  exact (normalp_any B x.A x.n x.c x.al w h.le p1 n1 l1').mono fun e w' hp => h.polyP hp (h.all i x hx).2.nf
theorem Env.equal (h : Env B W w l) {i j : Nat} {x y : PV} (hx : l[i]? = some x) (hy : l[j]? = some y) (hs : x.small) (hs2 : y.small) :
    Calls Try.prog 17 #[.slice x.A x.n x.c, .slice y.A y.n y.c] w (EnvV B W l (.bool (decide (x.al = y.al)))) :=
  (equal_any B x.A y.A x.n x.c y.n y.c x.al y.al w (h.all i x hx).1 (h.all j y hy).1 (by have := (h.n_le hx).1; have := hs.1; omega) (by have := (h.n_le hy).1; have := hs2.1; omega)).mono fun e w' hp => h.valP hp
theorem Env.num (h : Env B W w l) (z : Int) (M : Nat) (hz : z.natAbs ≤ M) (hM : M ≤ 9223372036854775807) :
    Calls Try.prog 36 #[.int .i64 z] w (EnvP B W l (constL z) 1 M 0) :=
  (num_any B z w h.le (by omega) (by omega)).mono fun e w' hp => h.polyP hp (fit_const z M hz)
theorem Env.var (h : Env B W w l) (i : Nat) (h1 : 1 ≤ i) (h4 : i ≤ 4) :
    Calls Try.prog 35 #[.int .i64 i] w (EnvP B W l (varL i) 1 1 1) :=
  (var_any B i w h.le h1 h4).mono fun e w' hp => h.polyP hp (fit_var i h1 h4)
theorem Env.poly (h : Env B W w l) {A : Option Addr} {n c : Nat} {L : List Mono} (hm : MonoR B W A n c L) {N E : Nat} (hn : n ≤ N) (hN : N < 1073741824) (hf : FewL L (E : Int)) :
    Calls Try.prog 15 #[.slice A n c] w (EnvP B W l L N (128 * N) E) :=
  (poly_any B A n c L w h.le (hm.below h.bel (Nat.le_refl _)) (by omega)).mono fun e w' hp => h.polyP hp ⟨by rw [hm.lenL]; exact hn, Nat.le_trans (l1_mono hm.rng) (Nat.mul_le_mul_left _ (by rw [hm.lenL]; exact hn)), fewE hf, monoV hm.rng⟩
theorem Env.awake (h : Env B W w l) : Calls Try.prog 12 #[] w (EnvV B W l (.bool true)) := (awake_any w).mono fun e w' hp => h.valP hp
/-- The answer of Few among polynomials. -/
def EnvFew (B : Nat) (W : World) (l : List PV) (n m : Nat) (y : Int) (L : List Mono) (e : Ending) (w' : World) : Prop :=
  ∃ b, e = .returned (.bool b) ∧ Hid (b = true ↔ n ≤ m ∧ FewL L y) ∧ Env B W w' l
theorem Env.few (h : Env B W w l) {A : Option Addr} {n c : Nat} {L : List Mono} (hm : MonoR B W A n c L) (m : Nat) (y : Int) (hm2 : m ≤ 1073741824) (hy : 0 ≤ y) (hy2 : y ≤ 255) :
    Calls Try.prog 13 #[.slice A n c, .int .i64 m, .int .u8 y] w (EnvFew B W l n m y L) :=
  (few_any B A n c m y L w (hm.below h.bel (Nat.le_refl _)) (Nat.le_trans hm.row.cap hm.row.bd) hm2 hy hy2).mono fun e w' hp => by
    obtain ⟨⟨b, he, hb⟩, h2⟩ := hp
    exact ⟨b, he, Lib.hid hb, h.next h2⟩
/-- What Exact returns, among polynomials. -/
def EnvEx (B : Nat) (W : World) (l : List PV) (al : List Tm) (N L E : Nat) (e : Ending) (w' : World) : Prop :=
  ∃ A n c, e = .returned (.tuple #[.slice A n c, .bool true]) ∧ Env B W w' (⟨A, n, c, al, N, L, E⟩ :: l)
def EnvNo (B : Nat) (W : World) (l : List PV) (e : Ending) (w' : World) : Prop :=
  e = .returned (.tuple #[.slice none 0 0, .bool false]) ∧ Env B W w' l
theorem Env.exact_zero (h : Env B W w l) {i j : Nat} {x y : PV} (hx : l[i]? = some x) (hy : l[j]? = some y) (hs : x.small) (hs2 : y.small) (hz : nf y.al = []) :
    Calls Try.prog 37 #[.slice x.A x.n x.c, .slice y.A y.n y.c] w (EnvNo B W l) := by
  obtain ⟨p1, n1, l1', e1⟩ := h.wide hx hs
  obtain ⟨p2, n2, l2', e2⟩ := h.wide hy hs2
  refine (exactp_zero B x.A y.A x.n x.c y.n y.c x.al y.al w h.le p1 p2 n1 n2 l1' l2' hz).mono fun e w' hp => ?_
  rcases hp with ⟨_, _, _, _, h1, _⟩ | ⟨_, h2, h3⟩
  · cases h1
  · exact ⟨h2, h.next h3⟩
end
theorem lt_bp_pow (L : Nat) {n k : Nat} (h : n ≤ 2 ^ k) (hk : k < 32 * L) : n < bp L := by
  have h1 : 2 ^ k < 2 ^ (32 * L) := Nat.pow_lt_pow_right (by omega) hk
  rw [Nat.pow_mul] at h1
  exact Nat.lt_of_le_of_lt h h1
theorem lt_mid {n k : Nat} (h : n ≤ 2 ^ k) (hk : k < 17179869184) : n < mid := by
  unfold mid
  exact lt_bp_pow _ h (by omega)
section
variable {B : Nat} {W w w' : World} {l : List PV} {e : Ending}
theorem nf_cons_of {al : List Tm} (h : nf al ≠ []) : ∃ t d', nf al = t :: d' := by
  cases h1 : nf al with
  | nil => exact absurd h1 h
  | cons t d' => exact ⟨t, d', rfl⟩
/-- A product is divided by a factor. -/
theorem Env.exact_mul (h : Env B W w l) {i j : Nat} {x y : PV} (hx : l[i]? = some x) (hy : l[j]? = some y) (hs : x.small) (hs2 : y.small) (hz : nf y.al ≠ []) (f : List Tm) {N L E : Nat} (hf : Fit f N L E) (hm : nf x.al = mulL f y.al) (hN : N < 16384) (hyN : y.N < 16384) (hL : L * y.L * (2 + y.L) < 340282366920938463463374607431768211456) (hE : E + y.E ≤ 1073741824) (hL2 : L < 340282366920938463463374607431768211456) :
    Calls Try.prog 37 #[.slice x.A x.n x.c, .slice y.A y.n y.c] w (EnvEx B W l (nf f) N L E) := by
  obtain ⟨p1, n1, l1', e1⟩ := h.wide hx hs
  obtain ⟨p2, n2, l2', e2⟩ := h.wide hy hs2
  have f2 := (h.all j y hy).2.nf
  obtain ⟨t, d', hd⟩ := nf_cons_of hz
  have cd : Canon (t :: d') := by rw [← hd]; exact nf_canon _
  rw [hd] at f2
  have hfn := hf.nf
  have hNN : N * y.N ≤ 16384 * 16384 := Nat.mul_le_mul (by omega) (by omega)
  have hok : ExOk (t :: d') t (nf f).length (nf (prodL (nf f) (t :: d'))) [] (some ([] ++ nf f)) := by
    refine exOk_exact cd (E := E) (F := y.E) (LD := y.N) (R := L) f2.e f2.len hE ?_ (nf f) (nf_canon f) hfn.e hfn.l1 N hfn.len (by omega) [] ?_ ?_
    · refine lt_mid (k := 128) (Nat.le_trans (Nat.mul_le_mul (Nat.mul_le_mul_left _ f2.l1) (Nat.add_le_add_left f2.l1 2)) (Nat.le_of_lt ?_)) (by omega)
      exact Nat.lt_of_lt_of_le hL (by decide)
    · have := hfn.len
      simp only [List.length_nil]; omega
    · rw [l1_nil, Nat.zero_add]
      exact Nat.lt_of_le_of_lt hfn.l1 (lt_big4 hL2)
  have hm2 : nf (prodL (nf f) (t :: d')) = nf x.al := by rw [hm, ← hd]; rfl
  rw [hm2] at hok
  refine (exactp_any B x.A y.A x.n x.c y.n y.c x.al y.al w h.le p1 p2 n1 n2 l1' l2' t d' hd _ _ hok (by have := hfn.len; omega)).mono fun e w' hp => ?_
  rcases hp with ⟨q, A, n, c, h1, h2, h3, h4⟩ | ⟨h1, _⟩
  · injection h1 with h1
    rw [List.nil_append] at h1
    rw [← h1, nf_nf] at h3
    exact ⟨A, n, c, h2, (h.next h4).push ⟨h3, hfn⟩⟩
  · cases h1
/-- What an exact division returns of arguments with small exponents: a quotient, or none. -/
def EnvDiv (B : Nat) (W : World) (l : List PV) (a d : List Tm) (e : Ending) (w' : World) : Prop :=
  (∃ q A n c, e = .returned (.tuple #[.slice A n c, .bool true]) ∧ PolyC B w' A n c (nf q) ∧ (n ≤ 16777216 ∧ l1 (nf q) < mid ∧ AllE (nf q) 511) ∧ Hid (AllV q ∧ nf a = mulL q d) ∧ Env B W w' l) ∨ (e = .returned (.tuple #[.slice none 0 0, .bool false]) ∧ Env B W w' l)
theorem of_blt {a b : Nat} (h : Nat.ble a b = true) : a < b + 1 := Nat.lt_succ_of_le (Nat.le_of_ble_eq_true h)
def PV.okB (x : PV) : Bool := Nat.ble x.N 1073741823 && (Nat.ble x.L 340282366920938463463374607431768211455 && Nat.ble x.E 1073741824)
theorem PV.small_of {x : PV} (h : x.okB = true) : x.small := by
  unfold PV.okB at h
  rw [Bool.and_eq_true, Bool.and_eq_true] at h
  exact ⟨of_blt h.1, of_blt h.2.1, Nat.le_of_ble_eq_true h.2.2⟩
def PV.mulB (x y : PV) : Bool := (x.okB && y.okB) && (Nat.ble (x.N * y.N) 1073741823 && Nat.ble (x.L * y.L) 340282366920938463463374607431768211455)
def PV.addB (x y : PV) : Bool := (x.okB && y.okB) && (Nat.ble (x.N + y.N) 1073741823 && Nat.ble (x.L + y.L) 340282366920938463463374607431768211455)
theorem Env.tail {x : PV} (h : Env B W w (x :: l)) : Env B W w l := ⟨fun i y hy => h.all (i + 1) y (by simpa using hy), h.bel, h.base⟩
theorem Env.mul' (h : Env B W w l) {i j : Nat} {x y : PV} (hx : l[i]? = some x) (hy : l[j]? = some y) (hb : x.mulB y = true) :
    Calls Try.prog 25 #[.slice x.A x.n x.c, .slice y.A y.n y.c] w (EnvP B W l (mulL x.al y.al) (x.N * y.N) (x.L * y.L) (x.E + y.E)) := by
  unfold PV.mulB at hb
  rw [Bool.and_eq_true, Bool.and_eq_true, Bool.and_eq_true] at hb
  exact h.mul hx hy (PV.small_of hb.1.1) (PV.small_of hb.1.2) (of_blt hb.2.1) (of_blt hb.2.2)
theorem Env.add' (h : Env B W w l) {i j : Nat} {x y : PV} (hx : l[i]? = some x) (hy : l[j]? = some y) (hb : x.addB y = true) :
    Calls Try.prog 21 #[.slice x.A x.n x.c, .slice y.A y.n y.c] w (EnvP B W l (nf (x.al ++ y.al)) (x.N + y.N) (x.L + y.L) (max x.E y.E)) := by
  unfold PV.addB at hb
  rw [Bool.and_eq_true, Bool.and_eq_true, Bool.and_eq_true] at hb
  exact h.add hx hy (PV.small_of hb.1.1) (PV.small_of hb.1.2) (of_blt hb.2.1) (of_blt hb.2.2)
theorem Env.sub' (h : Env B W w l) {i j : Nat} {x y : PV} (hx : l[i]? = some x) (hy : l[j]? = some y) (hb : x.addB y = true) :
    Calls Try.prog 22 #[.slice x.A x.n x.c, .slice y.A y.n y.c] w (EnvP B W l (nf (x.al ++ negL y.al)) (x.N + y.N) (x.L + y.L) (max x.E y.E)) := by
  unfold PV.addB at hb
  rw [Bool.and_eq_true, Bool.and_eq_true, Bool.and_eq_true] at hb
  exact h.sub hx hy (PV.small_of hb.1.1) (PV.small_of hb.1.2) (of_blt hb.2.1) (of_blt hb.2.2)
theorem Env.normal' (h : Env B W w l) {i : Nat} {x : PV} (hx : l[i]? = some x) (hb : x.okB = true) :
    Calls Try.prog 14 #[.slice x.A x.n x.c] w (EnvP B W l (nf x.al) x.N x.L x.E) := h.normal hx (PV.small_of hb)
theorem Env.equal_yes (h : Env B W w l) {i j : Nat} {x y : PV} (hx : l[i]? = some x) (hy : l[j]? = some y) (hb : x.okB = true) (hb2 : y.okB = true) (he : x.al = y.al) :
    Calls Try.prog 17 #[.slice x.A x.n x.c, .slice y.A y.n y.c] w (EnvV B W l (.bool true)) := by
  have h1 := h.equal hx hy (PV.small_of hb) (PV.small_of hb2)
  rw [decide_eq_true he] at h1
  exact h1
theorem mulL_one {a : List Tm} (ha : AllV a) : mulL a (constL 1) = nf a := by
  have h1 : constL 1 = [(1, zE)] := by decide
  have hV : AllV [((1 : Int), zE)] := fun p hp => by rw [List.mem_singleton.1 hp]; exact zE_valid
  rw [h1]
  refine canon_unique (mulL_canon _ _) (nf_canon _) fun e => ?_
  have h2 : subE e zE = e := by apply ex_ext <;> simp [subE, zE]
  rw [cf_mulL ha hV, cf_prodL_cons_right, cf_prodL_nil, cf_nfV ha, h2]
  omega
def PV.resB (x y : PV) (n l e N L E : Nat) : Bool := (x.okB && y.okB) && ((Nat.ble n N && (Nat.ble l L && Nat.ble e E)) && (Nat.ble N 1073741823 && Nat.ble L 340282366920938463463374607431768211455))
theorem PV.resB_of {x y : PV} {n l e N L E : Nat} (h : x.resB y n l e N L E = true) : x.small ∧ y.small ∧ n ≤ N ∧ l ≤ L ∧ e ≤ E ∧ N < 1073741824 ∧ L < 340282366920938463463374607431768211456 := by
  unfold PV.resB at h
  simp only [Bool.and_eq_true] at h
  exact ⟨PV.small_of h.1.1, PV.small_of h.1.2, Nat.le_of_ble_eq_true h.2.1.1, Nat.le_of_ble_eq_true h.2.1.2.1, Nat.le_of_ble_eq_true h.2.1.2.2, of_blt h.2.2.1, of_blt h.2.2.2⟩
theorem EnvP.mono {al : List Tm} {N L E N' L' E' : Nat} (h : EnvP B W l al N L E e w') (hN : N ≤ N') (hL : L ≤ L') (hE : E ≤ E') : EnvP B W l al N' L' E' e w' := by
  obtain ⟨A, n, c, he, hv⟩ := h
  exact ⟨A, n, c, he, hv.tail.push ⟨(hv.all 0 _ rfl).1, (hv.all 0 _ rfl).2.mono hN hL hE⟩⟩
theorem Env.mul2 (h : Env B W w l) (i j N L E : Nat) {x y : PV} (hx : l[i]? = some x) (hy : l[j]? = some y) (hb : x.resB y (x.N * y.N) (x.L * y.L) (x.E + y.E) N L E = true) :
    Calls Try.prog 25 #[.slice x.A x.n x.c, .slice y.A y.n y.c] w (EnvP B W l (mulL x.al y.al) N L E) := by
  obtain ⟨h1, h2, h3, h4, h5, h6, h7⟩ := PV.resB_of hb
  exact (h.mul hx hy h1 h2 (by omega) (by omega)).mono fun e w' hp => hp.mono h3 h4 h5
theorem Env.add2 (h : Env B W w l) (i j N L E : Nat) {x y : PV} (hx : l[i]? = some x) (hy : l[j]? = some y) (hb : x.resB y (x.N + y.N) (x.L + y.L) (x.E + y.E) N L E = true) :
    Calls Try.prog 21 #[.slice x.A x.n x.c, .slice y.A y.n y.c] w (EnvP B W l (nf (x.al ++ y.al)) N L (max x.E y.E)) := by
  obtain ⟨h1, h2, h3, h4, h5, h6, h7⟩ := PV.resB_of hb
  exact (h.add hx hy h1 h2 (by omega) (by omega)).mono fun e w' hp => hp.mono h3 h4 (Nat.le_refl _)
theorem Env.add3 (h : Env B W w l) (i j N L E : Nat) {x y : PV} (hx : l[i]? = some x) (hy : l[j]? = some y) (hb : x.resB y (x.N + y.N) (x.L + y.L) x.E N L E = true) (hE : Nat.ble y.E E = true) :
    Calls Try.prog 21 #[.slice x.A x.n x.c, .slice y.A y.n y.c] w (EnvP B W l (nf (x.al ++ y.al)) N L E) := by
  obtain ⟨h1, h2, h3, h4, h5, h6, h7⟩ := PV.resB_of hb
  exact (h.add hx hy h1 h2 (by omega) (by omega)).mono fun e w' hp => hp.mono h3 h4 (Nat.max_le.2 ⟨h5, Nat.le_of_ble_eq_true hE⟩)
theorem Env.sub3 (h : Env B W w l) (i j N L E : Nat) {x y : PV} (hx : l[i]? = some x) (hy : l[j]? = some y) (hb : x.resB y (x.N + y.N) (x.L + y.L) x.E N L E = true) (hE : Nat.ble y.E E = true) :
    Calls Try.prog 22 #[.slice x.A x.n x.c, .slice y.A y.n y.c] w (EnvP B W l (nf (x.al ++ negL y.al)) N L E) := by
  obtain ⟨h1, h2, h3, h4, h5, h6, h7⟩ := PV.resB_of hb
  exact (h.sub hx hy h1 h2 (by omega) (by omega)).mono fun e w' hp => hp.mono h3 h4 (Nat.max_le.2 ⟨h5, Nat.le_of_ble_eq_true hE⟩)
theorem Env.poly2 (h : Env B W w l) {A : Option Addr} {n c : Nat} {L : List Mono} (hm : MonoR B W A n c L) (N M E : Nat) (hn : n ≤ N) (hN : N < 1073741824) (hM : 128 * N ≤ M) (hf : FewL L (E : Int)) :
    Calls Try.prog 15 #[.slice A n c] w (EnvP B W l L N M E) :=
  (h.poly hm hn hN hf).mono fun e w' hp => hp.mono (Nat.le_refl _) hM (Nat.le_refl _)
end
end Go.Proofs.Ytnknidfpkmnncaa
/- Exact among many polynomials, in general; the walk of CheckpolyRing. -/
namespace Go.Proofs.Ytnknidfpkmnncaa
open Go.RowKit

theorem wt_of_E {e : Ex} (hv : validE e = true) (h : ESmall e 6) : wt e ≤ 511 := by
  have hv := validE_iff.1 hv
  have a0 := hv 0 (by omega)
  have a1 := hv 1 (by omega)
  have a2 := hv 2 (by omega)
  have a3 := hv 3 (by omega)
  have b0 := h 0 (by omega)
  have b1 := h 1 (by omega)
  have b2 := h 2 (by omega)
  have b3 := h 3 (by omega)
  simp only [ex] at a0 a1 a2 a3 b0 b1 b2 b3
  unfold wt
  omega
section
variable {B : Nat} {W w w' : World} {l : List PV} {e : Ending}
theorem Env.div (h : Env B W w l) {i j : Nat} {x y : PV} (hx : l[i]? = some x) (hy : l[j]? = some y) (hs : x.small) (hs2 : y.small) (hz : nf y.al ≠ []) (hE : x.E ≤ 6) (hE2 : y.E ≤ 3) (hN : x.N ≤ 1048576) (hN2 : y.N ≤ 16) (hL : x.L ≤ 18446744073709551616) (hL2 : y.L ≤ 1073741824) :
    Calls Try.prog 37 #[.slice x.A x.n x.c, .slice y.A y.n y.c] w (EnvDiv B W l x.al y.al) := by
  obtain ⟨p1, n1, l1', e1⟩ := h.wide hx hs
  obtain ⟨p2, n2, l2', e2⟩ := h.wide hy hs2
  have f1 := (h.all i x hx).2.nf
  have f2 := (h.all j y hy).2.nf
  obtain ⟨t, d', hd⟩ := nf_cons_of hz
  have cd : Canon (t :: d') := by rw [← hd]; exact nf_canon _
  rw [hd] at f2
  have hdE : ∀ s ∈ t :: d', ∀ j, j < 4 → ex s.2 j ≤ 3 := fun s hs j hj => by
    have := f2.e s hs j hj
    omega
  have hW : WtL (nf x.al) := fun s hs => wt_of_E (f1.v s hs) (fun j hj => by have := f1.e s hs j hj; omega)
  have hrk : rkL (nf x.al) ≤ 16777216 := by
    match h1 : nf x.al with
    | [] => show 0 ≤ _; omega
    | p :: _ =>
      have hp : p ∈ nf x.al := by rw [h1]; exact List.mem_cons_self ..
      have := rk_bound (f1.v p hp) (hW p hp)
      show (rk p.2).toNat + 1 ≤ _
      omega
  have hpow : l1 (nf x.al) * (2 + l1 (t :: d')) ^ (16777216 + 1) < mid := by
    have h1 : (2 + l1 (t :: d')) ^ (16777216 + 1) ≤ (2 ^ 31) ^ (16777216 + 1) := Nat.pow_le_pow_left (by have := f2.l1; omega) _
    have h2 : l1 (nf x.al) ≤ 2 ^ 64 := by have := f1.l1; omega
    have h3 := Nat.mul_le_mul h2 h1
    rw [← Nat.pow_mul, ← Nat.pow_add] at h3
    exact lt_mid h3 (by omega)
  have hlen : (nf x.al).length + 16777216 * y.N + y.N ≤ 536870912 := by have := f1.len; omega
  obtain ⟨r, hr, hrr⟩ := exOk_any cd hdE y.N f2.len 16777216 (nf x.al) [] (nf_canon _) hW hrk hlen (by rw [List.length_nil]; omega) hpow (by rw [l1_nil, Nat.zero_add]; exact Nat.lt_of_lt_of_le hpow mid_le_big) (fun p hp => by cases hp)
  refine (exactp_any B x.A y.A x.n x.c y.n y.c x.al y.al w h.le p1 p2 n1 n2 l1' l2' t d' hd _ _ hr (by omega)).mono fun e w' hp => ?_
  rcases hp with ⟨q, A, n, c, rfl, h2, h3, h4⟩ | ⟨_, h2, h3⟩
  · obtain ⟨g1, g2, g3⟩ := hrr q rfl
    rw [List.length_nil, Nat.zero_add] at g2
    rw [l1_nil, Nat.zero_add] at g3
    obtain ⟨s1, s2⟩ := exOk_sound cd _ _ _ q (AllV.nf _) (fun p hp => by cases hp) hr
    refine .inl ⟨q, A, n, c, h2, h3, ⟨?_, ?_, g1.nf⟩, Lib.hid ⟨s1, ?_⟩, h.next h4⟩
    · rw [← h3.len]
      exact Nat.le_trans (length_nf q) g2
    · exact Nat.lt_of_le_of_lt (Nat.le_trans (l1_nf q) g3) hpow
    · refine canon_unique (nf_canon _) (mulL_canon _ _) fun e => ?_
      rw [cf_mulL s1 (h.all j y hy).2.v, ← cf_prodL_right (cf_nfV (h.all j y hy).2.v), hd, s2, prodL_nil, cf_nil]
      omega
  · exact .inr ⟨h2, h.next h3⟩
end

set_option maxRecDepth 100000 in
set_option maxHeartbeats 8000000 in
theorem ringLaw_any (B : Nat) (A0 A1 A2 : Option Addr) (n0 c0 n1 c1 n2 c2 : Nat) (L0 L1 L2 : List Mono) (w : World) (hB : B ≤ w.heap.size) (m0 : MonoR B w A0 n0 c0 L0) (m1 : MonoR B w A1 n1 c1 L1) (m2 : MonoR B w A2 n2 c2 L2) (b0 : n0 ≤ 9223372036854775807) (b1 : n1 ≤ 9223372036854775807) (b2 : n2 ≤ 9223372036854775807) :
    Calls Try.prog 6 #[.slice A0 n0 c0, .slice A1 n1 c1, .slice A2 n2 c2] w (ValP (.bool true) w) := by
  have E0 := Env.start (w := w) hB
  go_enter Try.func6, Try.ntmps6
  have H := Lib.hid (E0.awake)
  go_wp2_with fail
  refine H.out.mono ?_
  rintro e w1 ⟨rfl, E1⟩
  clear H E0
  have H := Lib.hid (E1.few m0 4 3 (by omega) (by omega) (by omega))
  go_wp2_with fail
  refine H.out.mono ?_
  rintro e w2 ⟨f0, rfl, hf0, E2⟩
  clear H E1
  cases f0
  · have H := Lib.hid E2.awake
    go_wp2_with fail
    refine H.out.mono ?_
    rintro e wz ⟨rfl, Ez⟩
    go_wp2
    go_ret
    exact ⟨rfl, Ez.bel⟩
  have H := Lib.hid (E2.few m1 4 3 (by omega) (by omega) (by omega))
  go_wp2_with fail
  refine H.out.mono ?_
  rintro e w3 ⟨f1, rfl, hf1, E3⟩
  clear H E2
  cases f1
  · have H := Lib.hid E3.awake
    go_wp2_with fail
    refine H.out.mono ?_
    rintro e wz ⟨rfl, Ez⟩
    go_wp2
    go_ret
    exact ⟨rfl, Ez.bel⟩
  have H := Lib.hid (E3.few m2 4 3 (by omega) (by omega) (by omega))
  go_wp2_with fail
  refine H.out.mono ?_
  rintro e w4 ⟨f2, rfl, hf2, E4⟩
  clear H E3
  cases f2
  · have H := Lib.hid E4.awake
    go_wp2_with fail
    refine H.out.mono ?_
    rintro e wz ⟨rfl, Ez⟩
    go_wp2
    go_ret
    exact ⟨rfl, Ez.bel⟩
  have g0 := hf0.out.1 (by simp)
  have g1 := hf1.out.1 (by simp)
  have g2 := hf2.out.1 (by simp)
  clear hf0 hf1 hf2
  have HV := Lib.hid (show AllV L0 ∧ AllV L1 ∧ AllV L2 from ⟨monoV m0.rng, monoV m1.rng, monoV m2.rng⟩)
  have H := Lib.hid (E4.poly2 m0 4 512 3 g0.1 (by omega) (by omega) g0.2)
  go_wp2_with fail
  refine H.out.mono ?_
  rintro e w5 ⟨A5, k5, c5, rfl, E5⟩
  clear H E4
  have H := Lib.hid (E5.poly2 m1 4 512 3 g1.1 (by omega) (by omega) g1.2)
  go_wp2_with fail
  refine H.out.mono ?_
  rintro e w6 ⟨A6, k6, c6, rfl, E6⟩
  clear H E5
  have H := Lib.hid (E6.poly2 m2 4 512 3 g2.1 (by omega) (by omega) g2.2)
  go_wp2_with fail
  refine H.out.mono ?_
  rintro e w7 ⟨A7, k7, c7, rfl, E7⟩
  clear H E6
  clear m0 m1 m2 g0 g1 g2
  have H := Lib.hid (E7.mul2 2 1 16 262144 6 rfl rfl (by kernel_rfl))
  go_wp2_with fail
  refine H.out.mono ?_
  rintro e w8 ⟨A8, k8, c8, rfl, E8⟩
  clear H E7
  have H := Lib.hid (E8.mul2 2 3 16 262144 6 rfl rfl (by kernel_rfl))
  go_wp2_with fail
  refine H.out.mono ?_
  rintro e w9 ⟨A9, k9, c9, rfl, E9⟩
  clear H E8
  have H := Lib.hid (E9.equal_yes (i := 1) (j := 0) rfl rfl (by kernel_rfl) (by kernel_rfl) (mulL_comm HV.out.1 HV.out.2.1))
  go_wp2_with fail
  refine H.out.mono ?_
  rintro e w10 ⟨rfl, E10⟩
  clear H E9
  replace E10 := E10.tail
  have H := Lib.hid (E10.add3 3 2 8 1024 3 rfl rfl (by kernel_rfl) (by kernel_rfl))
  go_wp2_with fail
  refine H.out.mono ?_
  rintro e w11 ⟨A11, k11, c11, rfl, E11⟩
  clear H E10
  have H := Lib.hid (E11.add3 3 4 8 1024 3 rfl rfl (by kernel_rfl) (by kernel_rfl))
  go_wp2_with fail
  refine H.out.mono ?_
  rintro e w12 ⟨A12, k12, c12, rfl, E12⟩
  clear H E11
  have H := Lib.hid (E12.equal_yes (i := 1) (j := 0) rfl rfl (by kernel_rfl) (by kernel_rfl) (addL_comm HV.out.1 HV.out.2.1))
  go_wp2_with fail
  refine H.out.mono ?_
  rintro e w13 ⟨rfl, E13⟩
  clear H E12
  replace E13 := E13.tail.tail
  have H := Lib.hid (E13.mul2 0 1 64 134217728 9 rfl rfl (by kernel_rfl))
  go_wp2_with fail
  refine H.out.mono ?_
  rintro e w14 ⟨A14, k14, c14, rfl, E14⟩
  clear H E13
  have H := Lib.hid (E14.mul2 3 2 16 262144 6 rfl rfl (by kernel_rfl))
  go_wp2_with fail
  refine H.out.mono ?_
  rintro e w15 ⟨A15, k15, c15, rfl, E15⟩
  clear H E14
  have H := Lib.hid (E15.mul2 5 0 64 134217728 9 rfl rfl (by kernel_rfl))
  go_wp2_with fail
  refine H.out.mono ?_
  rintro e w16 ⟨A16, k16, c16, rfl, E16⟩
  clear H E15
  have H := Lib.hid (E16.equal_yes (i := 2) (j := 0) rfl rfl (by kernel_rfl) (by kernel_rfl) (mulL_assoc HV.out.1 HV.out.2.1 HV.out.2.2))
  go_wp2_with fail
  refine H.out.mono ?_
  rintro e w17 ⟨rfl, E17⟩
  clear H E16
  replace E17 := E17.tail.tail.tail
  have H := Lib.hid (E17.add3 2 1 8 1024 3 rfl rfl (by kernel_rfl) (by kernel_rfl))
  go_wp2_with fail
  refine H.out.mono ?_
  rintro e w18 ⟨A18, k18, c18, rfl, E18⟩
  clear H E17
  have H := Lib.hid (E18.mul2 4 0 32 524288 6 rfl rfl (by kernel_rfl))
  go_wp2_with fail
  refine H.out.mono ?_
  rintro e w19 ⟨A19, k19, c19, rfl, E19⟩
  clear H E18
  have H := Lib.hid (E19.mul2 5 3 16 262144 6 rfl rfl (by kernel_rfl))
  go_wp2_with fail
  refine H.out.mono ?_
  rintro e w20 ⟨A20, k20, c20, rfl, E20⟩
  clear H E19
  have H := Lib.hid (E20.add3 3 0 32 524288 6 rfl rfl (by kernel_rfl) (by kernel_rfl))
  go_wp2_with fail
  refine H.out.mono ?_
  rintro e w21 ⟨A21, k21, c21, rfl, E21⟩
  clear H E20
  have H := Lib.hid (E21.equal_yes (i := 2) (j := 0) rfl rfl (by kernel_rfl) (by kernel_rfl) (mulL_add HV.out.1 HV.out.2.1 HV.out.2.2))
  go_wp2_with fail
  refine H.out.mono ?_
  rintro e w22 ⟨rfl, E22⟩
  clear H E21
  replace E22 := E22.tail.tail.tail.tail
  have H := Lib.hid (E22.sub3 3 3 8 1024 3 rfl rfl (by kernel_rfl) (by kernel_rfl))
  go_wp2_with fail
  refine H.out.mono ?_
  rintro e w23 ⟨A23, k23, c23, rfl, E23⟩
  clear H E22
  obtain rfl : k23 = 0 := by
    have h8 := (E23.n_le (i := 0) rfl).2
    dsimp only at h8
    rw [sub_self HV.out.1] at h8
    exact h8.symm
  replace E23 := E23.tail
  have H := Lib.hid (E23.num 1 1 (by decide) (by omega))
  go_wp2_with fail
  refine H.out.mono ?_
  rintro e w24 ⟨A24, k24, c24, rfl, E24⟩
  clear H E23
  have H := Lib.hid (E24.mul2 4 0 4 512 3 rfl rfl (by kernel_rfl))
  go_wp2_with fail
  refine H.out.mono ?_
  rintro e w25 ⟨A25, k25, c25, rfl, E25⟩
  clear H E24
  have H := Lib.hid (E25.normal' (i := 5) rfl (by kernel_rfl))
  go_wp2_with fail
  refine H.out.mono ?_
  rintro e w26 ⟨A26, k26, c26, rfl, E26⟩
  clear H E25
  have H := Lib.hid (E26.equal_yes (i := 1) (j := 0) rfl rfl (by kernel_rfl) (by kernel_rfl) (mulL_one HV.out.1))
  go_wp2_with fail
  refine H.out.mono ?_
  rintro e w27 ⟨rfl, E27⟩
  clear H E26
  replace E27 := E27.tail.tail.tail
  have HFit := Lib.hid (E27.all 3 _ rfl).2
  by_cases hz : nf L1 = []
  · have H := Lib.hid (E27.exact_zero (i := 0) (j := 2) rfl rfl (PV.small_of (by kernel_rfl)) (PV.small_of (by kernel_rfl)) hz)
    go_wp2_with fail
    refine H.out.mono ?_
    rintro e w28 ⟨rfl, E28⟩
    clear H E27
    have H := Lib.hid (E28.normal' (i := 2) rfl (by kernel_rfl))
    go_wp2_with fail
    refine H.out.mono ?_
    rintro e w29 ⟨A29, k29, c29, rfl, E29⟩
    clear H E28
    obtain rfl : k29 = 0 := by
      have h8 := (E29.n_le (i := 0) rfl).2
      dsimp only at h8
      rw [hz] at h8
      exact h8.symm
    have HB := Lib.hid E29.bel
    clear E29 hz
    go_wp2
    go_ret
    exact ⟨rfl, HB.out⟩
  · have H := Lib.hid (E27.exact_mul (i := 0) (j := 2) rfl rfl (PV.small_of (by kernel_rfl)) (PV.small_of (by kernel_rfl)) hz L0 HFit.out (show nf (mulL L0 L1) = mulL L0 L1 from nf_nf _) (by dsimp only; omega) (by dsimp only; omega) (by dsimp only; omega) (by dsimp only; omega) (by dsimp only; omega))
    go_wp2_with fail
    refine H.out.mono ?_
    rintro e w28 ⟨A28, k28, c28, rfl, E28⟩
    clear H E27
    have H := Lib.hid (E28.normal' (i := 3) rfl (by kernel_rfl))
    go_wp2_with fail
    refine H.out.mono ?_
    rintro e w29 ⟨A29, k29, c29, rfl, E29⟩
    clear H E28
    have hkz : ((k29 : Int) == 0) = false := by
      rw [beq_eq_false_iff_ne]
      have h8 := (E29.n_le (i := 0) rfl).2
      dsimp only at h8
      intro h9
      exact hz (List.eq_nil_of_length_eq_zero (by omega))
    clear hz
    replace E29 := E29.tail
    have H := Lib.hid (E29.normal' (i := 4) rfl (by kernel_rfl))
    go_wp2_with fail
    refine H.out.mono ?_
    rintro e w30 ⟨A30, k30, c30, rfl, E30⟩
    clear H E29
    have H := Lib.hid (E30.equal_yes (i := 1) (j := 0) rfl rfl (by kernel_rfl) (by kernel_rfl) rfl)
    go_wp2_with fail
    refine H.out.mono ?_
    rintro e w31 ⟨rfl, E31⟩
    clear H E30
    have HB := Lib.hid E31.bel
    clear E31
    go_wp2
    go_ret
    exact ⟨rfl, HB.out⟩
end Go.Proofs.Ytnknidfpkmnncaa
