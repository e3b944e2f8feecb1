/- The library's IndexFunc and DeleteFunc over terms, with the test of Reducta. -/
import Derived.Test.YtnknidfpkmnncaaF9
namespace Go.Proofs.Ytnknidfpkmnncaa
open Go.RowKit

/-- What Reducta's closure has captured: the level and the degree. -/
structure RedOk (w : World) (p1 p2 j : Nat) (d : Int) : Prop where
  c1 : w.cell? ⟨p1, 0, none⟩ = some (.int .i64 ((j : Int) + 1))
  c2 : w.cell? ⟨p2, 0, none⟩ = some (.int .i64 d)
theorem RedOk.below {w w' : World} {p1 p2 j : Nat} {d : Int} (h : RedOk w p1 p2 j d) (hb : Below w.heap.size w w') : RedOk w' p1 p2 j d :=
  ⟨(hb.cell (p := ⟨p1, 0, none⟩) (World.block_lt_of_cell? w _ h.c1)).trans h.c1, (hb.cell (p := ⟨p2, 0, none⟩) (World.block_lt_of_cell? w _ h.c2)).trans h.c2⟩
theorem RedOk.only {w w' : World} {p1 p2 j g : Nat} {d : Int} (h : RedOk w p1 p2 j d) (hO : Only g w w') (h1 : p1 ≠ g) (h2 : p2 ≠ g) : RedOk w' p1 p2 j d :=
  ⟨(World.grownBy.cell_far hO ⟨p1, 0, none⟩ (World.block_lt_of_cell? w _ h.c1) (fun e => h1 (by injection e))).trans h.c1, (World.grownBy.cell_far hO ⟨p2, 0, none⟩ (World.block_lt_of_cell? w _ h.c2) (fun e => h2 (by injection e))).trans h.c2⟩
def rc (j : Nat) (d : Int) (t : TV) : Int := ex t.e j - d

set_option maxRecDepth 100000 in
set_option maxHeartbeats 1000000 in
theorem red_test (p1 p2 j : Nat) (d : Int) (t : TV) (w : World) (hj : j < 4) (h : RedOk w p1 p2 j d) :
    Calls Try.prog 62 #[.agg #[.bool t.neg, .slice t.A t.n t.c, .int .i64 t.e.1, .int .i64 t.e.2.1, .int .i64 t.e.2.2.1, .int .i64 t.e.2.2.2], .pointer (some ⟨p1, 0, none⟩), .pointer (some ⟨p2, 0, none⟩)] w (ValP (.bool (rc j d t == 0)) w) := by
  have hb0 : Below w.heap.size w (w.alloc (.cells #[.bool t.neg, .slice t.A t.n t.c, .int .i64 t.e.1, .int .i64 t.e.2.1, .int .i64 t.e.2.2.1, .int .i64 t.e.2.2.2] 80)) := (Below.refl _ _).alloc (Nat.le_refl _) _
  have hTB : TBox (w.alloc (.cells #[.bool t.neg, .slice t.A t.n t.c, .int .i64 t.e.1, .int .i64 t.e.2.1, .int .i64 t.e.2.2.1, .int .i64 t.e.2.2.2] 80)) w.heap.size t.neg t.A t.n t.c t.e := heap_alloc_new w _
  have hx := hTB.exCell j hj
  have hR := h.below hb0
  have q1 := hR.c1
  have q2 := hR.c2
  have HD := Lib.hid (show (ex t.e j == d) = (rc j d t == 0) by unfold rc; rw [Bool.eq_iff_iff, beq_iff_eq, beq_iff_eq]; omega)
  generalize ex t.e j = x at *
  obtain ⟨W, hW⟩ : ∃ W, W = (w.alloc (.cells #[.bool t.neg, .slice t.A t.n t.c, .int .i64 t.e.1, .int .i64 t.e.2.1, .int .i64 t.e.2.2.1, .int .i64 t.e.2.2.2] 80)) := ⟨_, rfl⟩
  obtain ⟨g, hg⟩ : ∃ g, g = w.heap.size := ⟨_, rfl⟩
  rw [← hW] at hb0 q1 q2
  rw [← hW, ← hg] at hx
  have j0 : (0 : Int) ≤ (j : Int) := by omega
  have j1 : (j : Int) < 4 := by omega
  have j2 : IntKind.i64.wrap (j : Int) = (j : Int) := IntWalk.i64_in _ (by omega)
  clear hTB hR h
  go_enter Try.func62, Try.ntmps62
  go_upto_region 1 with (fail)
  rw [← hW, ← hg]
  clear hW hg
  go_quiet (fail)
  go_wp2
  go_ret
  refine ⟨by rw [← HD.out]; rfl, hb0.trans (Drawn.below ?_ _)⟩
  repeat (first | exact Drawn.refl _ | refine Drawn.drewN ?_ _)
set_option maxRecDepth 100000 in
set_option maxHeartbeats 1000000 in
theorem indexR_any (p1 p2 j0 : Nat) (d0 : Int) (hj0 : j0 < 4) (zc : TV → Int) (hzc : zc = rc j0 d0) (g cap n : Nat) (L : List TV) (w : World) (h : Terms w g L) (hn : L.length = n) (hcap : n ≤ cap) (hbd : cap ≤ 9223372036854775807) (hnb : n ≤ 1099511627776) (hc : RedOk w p1 p2 j0 d0) :
    Calls Try.prog 73 #[.slice (some ⟨g, 0, none⟩) n cap, .func (.func 62) #[] #[.pointer (some ⟨p1, 0, none⟩), .pointer (some ⟨p2, 0, none⟩)]] w (IdxP g zc L w) := by
  have HN := Lib.hid hn
  have HRT := Lib.hid (show ∀ (t : TV) (w : World), RedOk w p1 p2 j0 d0 → Calls Try.prog 62 #[.agg #[.bool t.neg, .slice t.A t.n t.c, .int .i64 t.e.1, .int .i64 t.e.2.1, .int .i64 t.e.2.2.1, .int .i64 t.e.2.2.2], .pointer (some ⟨p1, 0, none⟩), .pointer (some ⟨p2, 0, none⟩)] w (ValP (.bool (zc t == 0)) w) from fun t w h => by rw [hzc]; exact red_test p1 p2 j0 d0 t w hj0 h)
  have HC := Lib.hid hc
  clear hn hc hzc hj0
  go_enter Try.func73, Try.ntmps73
  go_wp2
  go_loopw [8] (fun i wr => ∃ k : Nat, k ≤ n ∧ i = .int .i64 k ∧ Below w.heap.size w wr ∧ Hid (∀ s ∈ L.take k, zc s ≠ 0)) (fun i _ => n - (intOf i).toNat)
  case atStart => exact ⟨0, Nat.zero_le _, rfl, Below.refl _ _, Lib.hid (by simp)⟩
  case round =>
    obtain ⟨k, hk, rfl, hb, HV⟩ := hrel
    by_cases hlt : k < n
    · have hkL : k < L.length := by rw [HN.out]; exact hlt
      obtain ⟨t, ht⟩ : ∃ t, L[k]? = some t := ⟨_, List.getElem?_eq_getElem hkL⟩
      have hT := h.below hb
      obtain ⟨c0, c1, c2, c3, c4, c5⟩ := hT.six ht
      have hcf := (HC.out.below hb)
      have htk : L = L.take k ++ t :: L.drop (k + 1) := by
        have h1 := List.getElem?_eq_some_iff.1 ht
        rw [← h1.2, ← List.drop_eq_getElem_cons h1.1, List.take_append_drop]
      have HTK := Lib.hid htk
      have i0 : (0 : Int) ≤ (k : Int) := by omega
      have i1 : (k : Int) < (n : Int) := by omega
      clear ht htk hkL
      by_cases hz : zc t = 0
      · have hz' : (zc t == 0) = true := by rw [hz]; rfl
        have HZ := Lib.hid hz
        clear hz
        go_wp2_with fail
        refine (HRT.out t _ hcf).mono ?_
        rintro e w1 ⟨rfl, hb1⟩
        clear hT hcf c0 c1 c2 c3 c4 c5
        go_wp2
        go_ret
        refine ⟨.inr ⟨L.take k, t, L.drop (k + 1), HTK.out, HV.out, HZ.out, ?_⟩, hb.trans (hb1.mono hb.size)⟩
        rw [List.length_take, HN.out, Nat.min_eq_left hk]
        rfl
      · have hz' : (zc t == 0) = false := by rw [beq_eq_false_iff_ne]; exact hz
        have HV2 := Lib.hid (show ∀ s ∈ L.take (k + 1), zc s ≠ 0 from fun s hs => by
          rw [HTK.out] at hs
          have hl : (L.take k).length = k := by rw [List.length_take, HN.out]; omega
          rw [List.take_append, hl, List.take_of_length_le (by rw [hl]; omega), List.mem_append] at hs
          rcases hs with hs | hs
          · exact HV.out s hs
          · rw [show k + 1 - k = 1 by omega] at hs
            simp at hs
            rw [hs]; exact hz)
        clear hz
        go_wp2_with fail
        refine (HRT.out t _ hcf).mono ?_
        rintro e w1 ⟨rfl, hb1⟩
        clear hT hcf c0 c1 c2 c3 c4 c5
        have hb2 := hb.trans (hb1.mono hb.size)
        go_wp2
        go_roundw
        case rel => exact ⟨k + 1, by omega, by go_num, hb2, HV2⟩
        case measure => simp [intOf]; omega
    · have hkn : k = n := by omega
      subst hkn
      have HV2 := Lib.hid (show ∀ s ∈ L, zc s ≠ 0 by have := HV.out; rwa [List.take_of_length_le (by rw [HN.out]; omega)] at this)
      clear HV
      go_wp2
      go_ret
      exact ⟨.inl ⟨HV2.out, rfl⟩, hb⟩
set_option maxRecDepth 100000 in
set_option maxHeartbeats 2000000 in
theorem deleteR_any (p1 p2 j0 : Nat) (d0 : Int) (hj0 : j0 < 4) (zc : TV → Int) (hzc : zc = rc j0 d0) (g cap n : Nat) (L : List TV) (w : World) (hg1 : p1 ≠ g) (hg2 : p2 ≠ g) (h : Terms w g L) (hn : L.length = n) (hcap : n ≤ cap) (hbd : cap ≤ 9223372036854775807) (hnb : n ≤ 1099511627776) (hc : RedOk w p1 p2 j0 d0) :
    Calls Try.prog 49 #[.slice (some ⟨g, 0, none⟩) n cap, .func (.func 62) #[] #[.pointer (some ⟨p1, 0, none⟩), .pointer (some ⟨p2, 0, none⟩)]] w (DelP g cap zc L w) := by
  have HI := Lib.hid (indexR_any p1 p2 j0 d0 hj0 zc hzc g cap n L w h hn hcap hbd hnb hc)
  have HRT := Lib.hid (show ∀ (t : TV) (w : World), RedOk w p1 p2 j0 d0 → Calls Try.prog 62 #[.agg #[.bool t.neg, .slice t.A t.n t.c, .int .i64 t.e.1, .int .i64 t.e.2.1, .int .i64 t.e.2.2.1, .int .i64 t.e.2.2.2], .pointer (some ⟨p1, 0, none⟩), .pointer (some ⟨p2, 0, none⟩)] w (ValP (.bool (zc t == 0)) w) from fun t w h => by rw [hzc]; exact red_test p1 p2 j0 d0 t w hj0 h)
  have HC := Lib.hid hc
  have HN := Lib.hid hn
  clear hc hn hzc hj0
  go_enter Try.func49, Try.ntmps49
  go_wp2_with fail
  refine HI.out.mono ?_
  rintro e w1 ⟨⟨hall, rfl⟩ | ⟨X, t, Y, rfl, hX, ht, rfl⟩, hb1⟩
  · have hk : keep zc L = L := List.filter_eq_self.2 (fun s hs => by simp [hall s hs])
    have HK := Lib.hid hk
    have HT := Lib.hid (h.below hb1)
    have HO := Lib.hid ((Only.refl g w).below hb1 (Nat.le_refl _))
    clear hk hall h hb1
    go_wp2
    go_ret
    refine ⟨?_, by rw [HK.out]; exact HT.out, HO.out⟩
    rw [HK.out, HN.out]; rfl
  · have HX := Lib.hid hX
    have HT := Lib.hid ht
    have hlen : X.length + 1 + Y.length = n := by have := HN.out; simp at this; omega
    have h1 := h.below hb1
    have hO1 := (Only.refl g w).below hb1 (Nat.le_refl _)
    have hTy := h.ty
    clear hX ht h hb1
    generalize hp : X.length = p at *
    have HP := Lib.hid hp
    clear hp
    have hm1 : ((p : Int) == -1) = false := by rw [beq_eq_false_iff_ne]; omega
    go_wp2
    go_loopw [5, 6] (fun i j wr => ∃ (Y1 Y2 F R : List TV) (q r : Nat), q < r ∧ r ≤ n ∧ i = .int .i64 (q : Int) ∧ j = .int .i64 (r : Int) ∧ Terms wr g ((X ++ F) ++ (R ++ Y2)) ∧ Only g w wr ∧
      Hid (Y = Y1 ++ Y2 ∧ F = keep zc Y1 ∧ p + 1 + Y1.length = r ∧ (X ++ F).length = q ∧ R.length = r - q)) (fun _ j _ => n - (intOf j).toNat)
    case atStart => exact ⟨[], Y, [], [t], p, p + 1, by omega, by omega, rfl, by go_num, by simpa using h1, hO1, Lib.hid ⟨rfl, rfl, rfl, by simpa using HP.out, by simp⟩⟩
    case round =>
      clear h1 hO1
      obtain ⟨Y1, Y2, F, R, q, r, hqr, hrn, rfl, rfl, hT, hO, HV⟩ := hrel
      by_cases hlt : r < n
      · obtain ⟨v, Y2', rfl⟩ : ∃ v Y2', Y2 = v :: Y2' := by
          match Y2 with
          | v :: Y2' => exact ⟨v, Y2', rfl⟩
          | [] => have h1 := HV.out.1; have h2 := HV.out.2.2.1; rw [h1] at hlen; simp at hlen; omega
        have hat : ((X ++ F) ++ (R ++ v :: Y2'))[r]? = some v := by
          have e : (X ++ F) ++ (R ++ v :: Y2') = ((X ++ F) ++ R) ++ v :: Y2' := by simp
          rw [e]
          exact at_len _ v Y2' _ (by have h2 := HV.out.2.2.2.1; have h3 := HV.out.2.2.2.2; rw [List.length_append, h2, h3]; omega)
        obtain ⟨c0, c1, c2, c3, c4, c5⟩ := hT.six hat
        have hvL : v ∈ X ++ t :: Y := by rw [HV.out.1]; simp
        have hcf := HC.out.only hO hg1 hg2
        have hg := hT.lt
        have hbox : Below wr.heap.size wr (wr.alloc (.cells #[.bool v.neg, .slice v.A v.n v.c, .int .i64 v.e.1, .int .i64 v.e.2.1, .int .i64 v.e.2.2.1, .int .i64 v.e.2.2.2] 80)) := (Below.refl _ _).alloc (Nat.le_refl _) _
        have hcf2 := hcf.below hbox
        have hT2 := hT.below hbox
        have hO2 := hO.below hbox (Nat.le_refl _)
        have i0 : (0 : Int) ≤ (r : Int) := by omega
        have i1 : (r : Int) < (n : Int) := by omega
        clear hat hvL hcf hbox
        by_cases hz : zc v = 0
        · have hz' : (zc v == 0) = true := by rw [hz]; rfl
          have HV2 := Lib.hid (show Y = (Y1 ++ [v]) ++ Y2' ∧ F = keep zc (Y1 ++ [v]) ∧ p + 1 + (Y1 ++ [v]).length = r + 1 ∧ (X ++ F).length = q ∧ (R ++ [v]).length = r + 1 - q from
            ⟨by rw [HV.out.1]; simp, by rw [HV.out.2.1]; simp [keep, hz], by have := HV.out.2.2.1; simp; omega, HV.out.2.2.2.1, by simp [HV.out.2.2.2.2]; omega⟩)
          clear hz
          go_wp2_with fail
          refine (HRT.out v _ hcf2).mono ?_
          rintro e w2 ⟨rfl, hb2⟩
          have HT3 := Lib.hid (hT2.below hb2)
          have HO3 := Lib.hid (hO2.below hb2 (Nat.le_refl _))
          clear hcf2 c0 c1 c2 c3 c4 c5 hT hO hT2 hO2 hb2
          go_wp2
          go_roundw
          case rel =>
            refine ⟨Y1 ++ [v], Y2', F, R ++ [v], q, r + 1, by omega, by omega, rfl, by go_num, ?_, HO3.out, HV2⟩
            have e : (X ++ F) ++ (R ++ v :: Y2') = (X ++ F) ++ ((R ++ [v]) ++ Y2') := by simp
            rw [← e]; exact HT3.out
          case measure => simp [intOf]; omega
        · have hz' : (zc v == 0) = false := by rw [beq_eq_false_iff_ne]; exact hz
          obtain ⟨r0, R', rfl⟩ : ∃ r0 R', R = r0 :: R' := by
            match R with
            | r0 :: R' => exact ⟨r0, R', rfl⟩
            | [] => have h1 := HV.out.2.2.2.2; simp at h1; omega
          have HV2 := Lib.hid (show Y = (Y1 ++ [v]) ++ Y2' ∧ F ++ [v] = keep zc (Y1 ++ [v]) ∧ p + 1 + (Y1 ++ [v]).length = r + 1 ∧ (X ++ (F ++ [v])).length = q + 1 ∧ (R' ++ [v]).length = r + 1 - (q + 1) from
            ⟨by rw [HV.out.1]; simp, by rw [HV.out.2.1]; simp [keep, hz], by have := HV.out.2.2.1; simp; omega, by have := HV.out.2.2.2.1; simp at this ⊢; omega, by have := HV.out.2.2.2.2; simp at this ⊢; omega⟩)
          have HPL := Lib.hid HV.out.2.2.2.1
          have i2 : (0 : Int) ≤ (q : Int) := by omega
          have i3 : (q : Int) < (n : Int) := by omega
          clear hz
          go_wp2_with fail
          refine (HRT.out v _ hcf2).mono ?_
          rintro e w2 ⟨rfl, hb2⟩
          obtain ⟨e0, e1, e2, e3, e4, e5⟩ := box_six v hb2
          have hT3 := hT2.below hb2
          have hO3 := hO2.below hb2 (Nat.le_refl _)
          have hat2 : ((X ++ F) ++ ((r0 :: R') ++ v :: Y2'))[q]? = some r0 := at_len _ r0 (R' ++ v :: Y2') _ HPL.out
          obtain ⟨d0, d1, d2, d3, d4, d5⟩ := hT3.six hat2
          have hfz := hT3.frozen
          have HS := Lib.hid (hT3.set6 (i := q) (by have := HPL.out; simp at this ⊢; omega) v)
          have HO3 := Lib.hid (hO3.set6 (i := q * 6) (.bool v.neg) (.slice v.A v.n v.c) (.int .i64 v.e.1) (.int .i64 v.e.2.1) (.int .i64 v.e.2.2.1) (.int .i64 v.e.2.2.2))
          clear hcf2 c0 c1 c2 c3 c4 c5 hT hO hT2 hO2 hat2 hT3 hO3
          go_wp2
          go_roundw
          case rel =>
            refine ⟨Y1 ++ [v], Y2', F ++ [v], R' ++ [v], q + 1, r + 1, by omega, by omega, by go_num, by go_num, ?_, HO3.out, HV2⟩
            have e : ((X ++ F) ++ ((r0 :: R') ++ v :: Y2')).set q v = (X ++ (F ++ [v])) ++ ((R' ++ [v]) ++ Y2') := by
              rw [← HPL.out, List.set_append_right _ _ (Nat.le_refl _)]
              simp
            rw [← e]; exact HS.out
          case measure => simp [intOf]; omega
      · have hrn' : r = n := by omega
        subst hrn'
        have hY2 : Y2 = [] := by
          have h1 := HV.out.1; have h2 := HV.out.2.2.1
          rw [h1] at hlen
          simp at hlen
          exact List.eq_nil_of_length_eq_zero (by omega)
        subst hY2
        have hfin : keep zc (X ++ t :: Y) = X ++ F := by
          have h1 := HV.out.1
          rw [List.append_nil] at h1
          rw [HV.out.2.1, ← h1]
          have h2 : X.filter (fun t => !(zc t == 0)) = X := List.filter_eq_self.2 (fun s hs => by simp [HX.out s hs])
          simp [keep, List.filter_append, HT.out, h2]
        have hpl : (X ++ F).length = q := HV.out.2.2.2.1
        have hrl : ((X ++ F) ++ (R ++ [])).length = r := by
          have := HV.out.2.2.2.2
          rw [List.length_append, hpl, List.append_nil, this]; omega
        have hcl := fun (c : Nat) (ty : TypeId) => run_clear_terms g q (r - q) c r _ wr hT hrl (by omega) (by omega) ty
        have HF := Lib.hid hfin
        have HPL := Lib.hid hpl
        have HS := Lib.hid ((hT.prefix_).setCells (zeroTerms (r - q)) (q * 6) wr (by rw [hpl]; exact Nat.le_refl _))
        have HO := Lib.hid (hO.setCells (zeroTerms (r - q)) (q * 6) wr)
        have i0 : (0 : Int) ≤ (q : Int) := by omega
        have i1 : (q : Int) ≤ (r : Int) := by omega
        have i2 : q < cap := by omega
        clear hfin hpl hrl hT hO
        go_wp2
        go_ret
        exact ⟨by rw [HF.out, HPL.out]; rfl, by rw [HF.out]; exact HS.out, HO.out⟩

theorem indexR_nil (p1 p2 : Nat) (w : World) :
    Calls Try.prog 73 #[.slice none 0 0, .func (.func 62) #[] #[.pointer (some ⟨p1, 0, none⟩), .pointer (some ⟨p2, 0, none⟩)]] w fun e w' => e = .returned (.int .i64 (-1)) ∧ w = w' := by
  go_enter Try.func73, Try.ntmps73
  go_wp2
  go_loop [8] (fun i => i = .int .i64 0) (fun _ => 0)
  case atStart => rfl
  case round =>
    obtain rfl := hrel
    go_wp2
    go_ret
    exact ⟨rfl, rfl⟩
theorem deleteR_nil (p1 p2 : Nat) (w : World) :
    Calls Try.prog 49 #[.slice none 0 0, .func (.func 62) #[] #[.pointer (some ⟨p1, 0, none⟩), .pointer (some ⟨p2, 0, none⟩)]] w fun e w' => e = .returned (.slice none 0 0) ∧ w = w' := by
  go_enter Try.func49, Try.ntmps49
  go_wp2_with fail
  refine (indexR_nil p1 p2 _).mono ?_
  rintro e w1 ⟨rfl, rfl⟩
  go_wp2
  go_ret
  exact ⟨rfl, rfl⟩
end Go.Proofs.Ytnknidfpkmnncaa
