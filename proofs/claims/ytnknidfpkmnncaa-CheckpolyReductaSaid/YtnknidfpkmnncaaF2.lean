/- checkpoly.neg, Add, Sub. -/
import Derived.Test.YtnknidfpkmnncaaF1
namespace Go.Proofs.Ytnknidfpkmnncaa
open Go.RowKit

/-- The terms with their coefficients negated. -/
def negL (al : List Tm) : List Tm := al.map fun p => (-p.1, p.2)
theorem negL_step {al : List Tm} {k : Nat} {p : Tm} (h : al[k]? = some p) : negL (al.take (k + 1)) = negL (al.take k) ++ [(-p.1, p.2)] := by
  unfold negL
  rw [List.take_add_one, h]
  simp
theorem l1_negL (al : List Tm) : l1 (negL al) = l1 al := by
  induction al with
  | nil => rfl
  | cons p al ih =>
    show l1 ((-p.1, p.2) :: negL al) = _
    rw [l1_cons, l1_cons, ih]
    simp
theorem M1.box {B : Nat} {w : World} {pl : List Tm} {v : Value} {L : List TV} {wr : World} (h : M1 B w pl v L wr) (neg : Bool) (A : Option Addr) (n c : Nat) (e : Ex) :
    M1 B w pl v L (wr.alloc (.cells #[.bool neg, .slice A n c, .int .i64 e.1, .int .i64 e.2.1, .int .i64 e.2.2.1, .int .i64 e.2.2.2] 80)) := h.later ((Below.refl _ _).alloc (Nat.le_refl _) _)

set_option maxRecDepth 100000 in
set_option maxHeartbeats 4000000 in
theorem neg_any (B : Nat) (A : Option Addr) (n c : Nat) (al : List Tm) (w : World) (hB : B ≤ w.heap.size) (h : PolyW B w A n c al) (hnl : n ≤ 1073741824) :
    Calls Try.prog 55 #[.slice A n c] w (PolyP B (negL al) w) := by
  obtain ⟨i0, hi0, hz0, hz1, hz2⟩ := info_parts terminfo
  obtain ⟨L, hP⟩ := h
  have hcap := hP.row.cap
  have hbd := hP.row.bd
  go_enter Try.func55, Try.ntmps55
  go_wp2
  go_loopw [3, 8] (fun v i wr => ∃ (k : Nat) (L1 : List TV), k ≤ n ∧ i = .int .i64 k ∧ M1 B w (negL (al.take k)) v L1 wr) (fun _ i _ => n - (intOf i).toNat)
  case atStart => exact ⟨0, [], Nat.zero_le _, rfl, by simpa [negL] using M1.start B w⟩
  case round =>
    obtain ⟨W0, rfl⟩ : ∃ x, x = wr := ⟨_, rfl⟩
    obtain ⟨k, L1, hk, rfl, hN⟩ := hrel
    by_cases hlt : k < n
    · obtain ⟨b, off, rfl, hbl, hcells⟩ := hP.row.six (by omega)
      obtain ⟨t, ht⟩ : ∃ t, L[k]? = some t := ⟨_, List.getElem?_eq_getElem (by rw [hP.lenL]; exact hlt)⟩
      obtain ⟨p, hp, hte, hco⟩ := hP.reps.at_ ht
      obtain ⟨c0, c1, c2, c3, c4, c5⟩ := hcells k t ht
      have hbb := hN.below
      have hgw := hbb.size
      have hgl := fun g hg => own_lt hN.own g hg
      replace c0 := (hbb.cell (by exact hbl)).trans c0
      replace c1 := (hbb.cell (by exact hbl)).trans c1
      replace c2 := (hbb.cell (by exact hbl)).trans c2
      replace c3 := (hbb.cell (by exact hbl)).trans c3
      replace c4 := (hbb.cell (by exact hbl)).trans c4
      replace c5 := (hbb.cell (by exact hbl)).trans c5
      have hco1 := hco.below hbb (Nat.le_refl _)
      have HPk := Lib.hid hp
      have HTE := Lib.hid hte
      have i1 : (0 : Int) ≤ (k : Int) := by omega
      have i2 : (k : Int) < (n : Int) := by omega
      have hbox := (Terms.box W0 t)
      have hbxb : Below W0.heap.size W0 (W0.alloc (.cells #[.bool t.neg, .slice t.A t.n t.c, .int .i64 t.e.1, .int .i64 t.e.2.1, .int .i64 t.e.2.2.1, .int .i64 t.e.2.2.2] 80)) := (Below.refl _ _).alloc (Nat.le_refl _) _
      have hN1 := hN.later hbxb
      have hco2 := hco1.below hbxb (Nat.le_refl _)
      have hbx1 := hbox.six (i := 0) (t := t) rfl
      clear hcells ht hp hte hco hbb hco1
      obtain ⟨w1, hw1⟩ : ∃ w1, w1 = (W0.alloc (.cells #[.bool t.neg, .slice t.A t.n t.c, .int .i64 t.e.1, .int .i64 t.e.2.1, .int .i64 t.e.2.2.1, .int .i64 t.e.2.2.2] 80)) := ⟨_, rfl⟩
      have hs1 : W0.heap.size < w1.heap.size := by rw [hw1]; simp
      go_upto_region 5 with (fail)
      rw [← hw1] at hN1 hco2 hbx1 ⊢
      have hx0 : Held6 w1 W0.heap.size t := by simpa only [Nat.zero_mul, Nat.zero_add] using hbx1
      have hx1 : Held6 w1.drew W0.heap.size t := hx0
      have hN2 := hN1.later ((Below.refl _ _).drew)
      obtain ⟨⟨xs, hdx, hzx⟩, htn⟩ := hco2
      have hdx2 := hdx.drew
      obtain ⟨z, hz⟩ : ∃ z, z = -p.1 := ⟨_, rfl⟩
      have HZ := Lib.hid (show -(iv t.neg (val xs)) = z by rw [hz, hzx])
      have HZP := Lib.hid hz
      clear hz
      have hown0 : ∀ g, u3.ownBlock = some g → g < W0.heap.size := hgl
      have hBw : B ≤ w1.drew.heap.size := by show B ≤ w1.heap.size; have := hN1.below.size; omega
      have hL1 : L1.length ≤ k := by have h1 := hN1.reps.length; unfold negL at h1; rw [List.length_map, List.length_take] at h1; omega
      have hws : w.heap.size ≤ w1.heap.size := hN1.below.size
      have HW1 := Lib.hid hw1
      clear hzx hdx hN1 hbxb hbox hN c0 c1 c2 c3 c4 c5 hbx1 hw1
      go_region_held3 (fun w' => Held6 w' W0.heap.size t) (first | exact hx1 | exact hx2 | exact hx2a | exact hx3 | go_keep)
        (first
          | (go_at_call 76; ((with_reducible refine (ineg_any B t.neg t.A t.n t.c xs _ hBw hdx2 htn).mono ?_); rw [HZ.out]; rintro e2 w2 ⟨A2, n2, c2, rfl, h2, hbw2⟩; have hN3 := hN2.later hbw2; have hx2 := held6_below hx1 hbw2 hs1; have hs2 : W0.heap.size < w2.heap.size := Nat.lt_of_lt_of_le hs1 hbw2.size; have hx2a := held6_box hx2 hs2 (decide (z < 0)) A2 n2 c2 t.e; have hN4 := hN3.box (decide (z < 0)) A2 n2 c2 t.e))
          | (refine step_append_lies _ (by rfl) _ _ _ (by rfl) w.heap.size 80 i0 _ 6 64 Try.underlying26 hi0 hz0 hz1 hz2 rfl (by omega) u3 L1.length (flat L1) (by rfl) hN4.own ⟨w2.heap.size, 0, none⟩ 1 1 (flat [⟨decide (z < 0), A2, n2, c2, t.e⟩]) (by rfl) (by rfl) (World.news_of_block (cs := #[.bool (decide (z < 0)), .slice A2 n2 c2, .int .i64 t.e.1, .int .i64 t.e.2.1, .int .i64 t.e.2.2.1, .int .i64 t.e.2.2.2]) (t := 80) (fr := (0, 0)) (heap_alloc_new w2 _)) (flat_one _) (by omega) (by simp only [maxLen]; omega) (by omega) (by simp; omega) (w2.heap.size + 1) (by simp) ?_; intro gg cap w3 hown3 hgrow hat hlt3; have hx3 := held6_grown hx2a hgrow hown0 (by simp; omega)))
      have hN5 := hN4.push (p := (z, p.2)) (t := ⟨decide (z < 0), A2, n2, c2, t.e⟩) HTE.out hown3 hgrow ⟨rfl, h2.below (((Below.refl _ _).alloc (Nat.le_refl _) _)) (Nat.le_refl _)⟩ hB
      clear hx0 hx1 hx2 hx2a hx3 hN2 hN3 hN4 hown3 hgrow h2 hdx2 hbw2 hat
      go_wp2
      go_roundw
      case rel => exact ⟨k + 1, _, by omega, by go_num, by rw [negL_step HPk.out, ← HZP.out]; exact hN5⟩
      case measure => simp [intOf]; omega
    · obtain rfl : k = n := by omega
      have hN9 := hN
      rw [List.take_of_length_le (by rw [hP.len]; exact Nat.le_refl _)] at hN9
      obtain ⟨A5, c5, rfl⟩ := own_slice hN9.own
      have hP5 : PolyC B W0 A5 L1.length c5 (negL al) := ⟨L1, Row.of_own hN9.own, hN9.reps⟩
      have hbb := hN9.below
      clear hN9 hN
      go_wp2
      go_ret
      exact ⟨_, _, _, rfl, hP5, hbb⟩

theorem PolyF.base {B : Nat} {al : List Tm} {W w : World} {e : Ending} {w' : World} (h : PolyF B al w e w') (hb : Below W.heap.size W w) : PolyF B al W e w' := by
  obtain ⟨A, n, c, he, hp, hb2, hf⟩ := h
  exact ⟨A, n, c, he, hp, hb.trans (hb2.mono hb.size), fun ad ha => Nat.le_trans hb.size (hf ad ha)⟩
theorem PolyF.polyP {B : Nat} {al : List Tm} {w : World} {e : Ending} {w' : World} (h : PolyF B al w e w') : PolyP B al w e w' := by
  obtain ⟨A, n, c, he, hp, hb2, hf⟩ := h
  exact ⟨A, n, c, he, hp, hb2⟩

set_option maxRecDepth 100000 in
set_option maxHeartbeats 1000000 in
theorem addp_new (B : Nat) (A A2 : Option Addr) (n c n2 c2 : Nat) (al bl : List Tm) (w : World) (hB : B ≤ w.heap.size) (h : PolyW B w A n c al) (h2 : PolyW B w A2 n2 c2 bl) (hn : n + n2 < sortLim) (hl : l1 al + l1 bl < big) :
    Calls Try.prog 21 #[.slice A n c, .slice A2 n2 c2] w (PolyF B (nf (al ++ bl)) w) := by
  have hbx : Below w.heap.size w (w.alloc (.cells #[.slice A n c, .slice A2 n2 c2] 26)) := (Below.refl _ _).alloc (Nat.le_refl _) _
  have hC := Lib.hid (concat_any B w.heap.size A A2 n c n2 c2 al bl (w.alloc (.cells #[.slice A n c, .slice A2 n2 c2] 26)) (heap_alloc_new w _) (h.below hbx (Nat.le_refl _)) (h2.below hbx (Nat.le_refl _)) (by unfold sortLim at hn; omega))
  have HL := Lib.hid (show l1 (al ++ bl) < big by rw [l1_append]; exact hl)
  have HN := Lib.hid (show (al ++ bl).length = n + n2 by rw [List.length_append, h.len, h2.len])
  clear hl h h2
  go_enter Try.func21, Try.ntmps21
  go_wp2_with fail
  refine hC.out.mono ?_
  rintro e w1 ⟨A1, n1, c1, rfl, h1, hb1⟩
  have hb2 := hbx.trans (hb1.mono hbx.size)
  have hn1 : n1 < sortLim := by have := h1.len; have := HN.out; omega
  clear hC hb1 hbx
  go_wp2_with fail
  refine (normalp_new B A1 n1 c1 (al ++ bl) w1 (Nat.le_trans hB hb2.size) h1 hn1 HL.out).mono ?_
  rintro e w2 ⟨A3, n3, c3, rfl, h3, hb3, hf⟩
  go_wp2
  go_ret
  exact ⟨A3, n3, c3, rfl, h3, hb2.trans (hb3.mono hb2.size), fun ad ha => Nat.le_trans hb2.size (hf ad ha)⟩

set_option maxRecDepth 100000 in
set_option maxHeartbeats 1000000 in
theorem subp_new (B : Nat) (A A2 : Option Addr) (n c n2 c2 : Nat) (al bl : List Tm) (w : World) (hB : B ≤ w.heap.size) (h : PolyW B w A n c al) (h2 : PolyW B w A2 n2 c2 bl) (hn : n + n2 < sortLim) (hl : l1 al + l1 bl < big) :
    Calls Try.prog 22 #[.slice A n c, .slice A2 n2 c2] w (PolyF B (nf (al ++ negL bl)) w) := by
  have HL := Lib.hid (show l1 (al ++ negL bl) < big by rw [l1_append, l1_negL]; exact hl)
  have HN := Lib.hid (show (al ++ negL bl).length = n + n2 by rw [List.length_append, h.len]; unfold negL; rw [List.length_map, h2.len])
  have HL2 := Lib.hid (show l1 (negL bl) < big by rw [l1_negL]; omega)
  have HLn := Lib.hid (show (negL bl).length = n2 by unfold negL; rw [List.length_map, h2.len])
  clear hl
  go_enter Try.func22, Try.ntmps22
  go_wp2_with fail
  refine (neg_any B A2 n2 c2 bl w hB h2 (by unfold sortLim at hn; omega)).mono ?_
  rintro e w0 ⟨A4, n4, c4, rfl, h4, hb0⟩
  have hn4 : n4 = n2 := by have := h4.len; have := HLn.out; omega
  have hbx : Below w0.heap.size w0 (w0.alloc (.cells #[.slice A n c, .slice A4 n4 c4] 26)) := (Below.refl _ _).alloc (Nat.le_refl _) _
  have hC := Lib.hid (concat_any B w0.heap.size A A4 n c n4 c4 al (negL bl) (w0.alloc (.cells #[.slice A n c, .slice A4 n4 c4] 26)) (heap_alloc_new w0 _) ((h.below hb0 (Nat.le_refl _)).below hbx (Nat.le_refl _)) ((h4.wide HL2.out).below hbx (Nat.le_refl _)) (by unfold sortLim at hn; omega))
  have HN4 := Lib.hid hn4
  clear h h2 h4 hn4
  go_wp2_with fail
  refine hC.out.mono ?_
  rintro e w1 ⟨A1, n1, c1, rfl, h1, hb1⟩
  have hb2 := (hb0.trans (hbx.mono hb0.size)).trans (hb1.mono (Nat.le_trans hb0.size hbx.size))
  have hn1 : n1 < sortLim := by have := h1.len; have := HN.out; omega
  clear hC hb1 hbx
  go_wp2_with fail
  refine (normalp_new B A1 n1 c1 (al ++ negL bl) w1 (Nat.le_trans hB hb2.size) h1 hn1 HL.out).mono ?_
  rintro e w2 ⟨A3, n3, c3, rfl, h3, hb3, hf⟩
  go_wp2
  go_ret
  exact ⟨A3, n3, c3, rfl, h3, hb2.trans (hb3.mono hb2.size), fun ad ha => Nat.le_trans hb2.size (hf ad ha)⟩

set_option maxRecDepth 100000 in
set_option maxHeartbeats 1000000 in
theorem same_any (B : Nat) (A A2 : Option Addr) (n c n2 c2 : Nat) (al bl : List Tm) (w : World) (hB : B ≤ w.heap.size) (h : PolyW B w A n c al) (h2 : PolyW B w A2 n2 c2 bl) (hn : n < sortLim) (hn2 : n2 < sortLim) (hl : l1 al < big) (hl2 : l1 bl < big) :
    Calls Try.prog 30 #[.slice A n c, .slice A2 n2 c2] w (ValP (.bool (decide (nf al = nf bl))) w) := by
  have hC := Lib.hid (compare_any B A A2 n c n2 c2 al bl w hB h h2 hn hn2 hl hl2)
  have HD := Lib.hid (show (cmpL (nf al) (nf bl) == 0) = decide (nf al = nf bl) by rw [Bool.eq_iff_iff, beq_iff_eq, decide_eq_true_eq]; exact cmpL_zero)
  clear h h2 hl hl2
  go_enter Try.func30, Try.ntmps30
  go_wp2_with fail
  refine hC.out.mono ?_
  rintro e w1 ⟨rfl, hb1⟩
  go_wp2
  go_ret
  exact ⟨by rw [← HD.out]; rfl, hb1⟩
end Go.Proofs.Ytnknidfpkmnncaa
