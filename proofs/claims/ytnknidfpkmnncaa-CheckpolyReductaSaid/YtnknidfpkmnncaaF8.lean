/- checkpoly.Coef, Level, constant; the library's Clone. -/
import Derived.Test.YtnknidfpkmnncaaF2
namespace Go.Proofs.Ytnknidfpkmnncaa
open Go.RowKit

/-- The exponents with a 0 at j. -/
def zeroE (j : Nat) (e : Ex) : Ex := match j with
  | 0 => (0, e.2.1, e.2.2.1, e.2.2.2)
  | 1 => (e.1, 0, e.2.2.1, e.2.2.2)
  | 2 => (e.1, e.2.1, 0, e.2.2.2)
  | _ => (e.1, e.2.1, e.2.2.1, 0)
/-- The coefficient of the power k of the variable j. -/
def coefL (j : Nat) (k : Int) (al : List Tm) : List Tm := (al.filter fun p => ex p.2 j == k).map fun p => (p.1, zeroE j p.2)
theorem coefL_step {j : Nat} {k : Int} {al : List Tm} {i : Nat} {p : Tm} (h : al[i]? = some p) : coefL j k (al.take (i + 1)) = if ex p.2 j = k then coefL j k (al.take i) ++ [(p.1, zeroE j p.2)] else coefL j k (al.take i) := by
  unfold coefL
  rw [List.take_add_one, h, List.filter_append]
  by_cases he : ex p.2 j = k
  · simp [he]
  · simp [he]
theorem coefL_len (j : Nat) (k : Int) (al : List Tm) : (coefL j k al).length ≤ al.length := by
  unfold coefL
  rw [List.length_map]
  exact List.length_filter_le _ _

theorem TBox.setJ {w : World} {g : Nat} {b : Bool} {A : Option Addr} {n c : Nat} {e : Ex} (h : TBox w g b A n c e) (j : Nat) (hj : j < 4) : TBox (w.setCell ⟨g, 2 + j, none⟩ (.int .i64 0)) g b A n c (zeroE j e) := by
  match j, hj with
  | 0, _ => exact h.set0 0
  | 1, _ => exact h.set1 0
  | 2, _ => exact h.set2 0
  | 3, _ => exact h.set3 0
theorem TBox.exCell {w : World} {g : Nat} {b : Bool} {A : Option Addr} {n c : Nat} {e : Ex} (h : TBox w g b A n c e) (j : Nat) (hj : j < 4) : w.cell? ⟨g, 2 + j, none⟩ = some (.int .i64 (ex e j)) := by
  obtain ⟨c0, c1, c2, c3, c4, c5⟩ := h.six
  match j, hj with
  | 0, _ => exact c2
  | 1, _ => exact c3
  | 2, _ => exact c4
  | 3, _ => exact c5

theorem M1.setFar {B : Nat} {w : World} {pl : List Tm} {v : Value} {L : List TV} {wr : World} {g : Nat} (h : M1 B w pl v L wr) (hg : w.heap.size ≤ g) (hne : v.ownBlock ≠ some g) (hB : B ≤ g) (ht : Ty wr g 80) (i : Nat) (u : Value) : M1 B w pl v L (wr.setCell ⟨g, i, none⟩ u) :=
  ⟨h.own.kept (row := some g) ⟨rfl, rfl, rfl, by simp [World.setCell], fun k _ hk => Below.heap_setCell wr _ _ k (fun e => hk (by rw [e]))⟩ (.inr hne), h.reps.mono fun t z _ hr => ⟨hr.1, hr.2.setCell (p := ⟨g, i, none⟩) hB ht (by decide) u⟩, h.below.setCell hg u⟩

set_option maxRecDepth 100000 in
set_option maxHeartbeats 4000000 in
theorem coef_any (B j : Nat) (A : Option Addr) (n c : Nat) (al : List Tm) (d : Int) (w : World) (hB : B ≤ w.heap.size) (h : PolyW B w A n c al) (hn : n < sortLim) (hl : l1 al < big) (hj : j < 4) :
    Calls Try.prog 33 #[.slice A n c, .int .i64 ((j : Int) + 1), .int .i64 d] w (PolyP B (coefL j d (nf al)) w) := by
  have hnm : n ≤ 1073741824 := by unfold sortLim at hn; omega
  obtain ⟨i0, hi0, hz0, hz1, hz2⟩ := info_parts terminfo
  have HN := Lib.hid (normalp_any B A n c al w hB h hn hl)
  have HL := Lib.hid (show (nf al).length ≤ n by have h4 := length_nf al; have h5 := h.len; omega)
  generalize nf al = a at *
  clear h hl
  have hj0 : (0 : Int) ≤ (j : Int) := by omega
  have hj1 : (j : Int) < 4 := by omega
  go_enter Try.func33, Try.ntmps33
  go_wp2_with fail
  refine HN.out.mono ?_
  rintro e w1 ⟨A', n', c', rfl, h1, hb1⟩
  have hl1 : n' ≤ n := by have h3 := h1.len; have := HL.out; omega
  have hc1 := h1.cap
  have hws := hb1.size
  go_wp2_with fail
  go_loopw [7, 19] (fun v i wr => ∃ (k : Nat) (L1 : List TV), k ≤ n' ∧ i = .int .i64 k ∧ M1 B w1 (coefL j d (a.take k)) v L1 wr) (fun _ i _ => n' - (intOf i).toNat)
  case atStart => exact ⟨0, [], Nat.zero_le _, rfl, by simpa [coefL] using M1.start B w1⟩
  case round =>
    obtain ⟨W0, rfl⟩ : ∃ y, y = wr := ⟨_, rfl⟩
    obtain ⟨k, L1, hk, rfl, hM⟩ := hrel
    by_cases hkn : k < n'
    · obtain ⟨b, off, rfl, hs1, HT⟩ := h1.term (by omega)
      obtain ⟨t, p, hp, hte, hcf, hh2, hh4⟩ := HT k hkn
      have hb := hM.below
      obtain ⟨c0, c1⟩ := held2_below hh2 hb hs1
      obtain ⟨d0, d1, d2, d3⟩ := held4_below hh4 hb hs1
      have hcf2 := hcf.below hb (Nat.le_refl _)
      have HP := Lib.hid hp
      have i0' : (0 : Int) ≤ (k : Int) := by omega
      have i1 : (k : Int) < (n' : Int) := by omega
      have hL1 : L1.length ≤ 1073741824 := by
        have h3 := hM.reps.length
        have h5 : (coefL j d (a.take k)).length ≤ k := Nat.le_trans (coefL_len j d (a.take k)) (List.length_take_le _ _)
        omega
      have HTE := Lib.hid hte
      clear HT hp hte hcf hh2 hh4
      have hgW : w1.heap.size ≤ W0.heap.size := hb.size
      have hal : Below W0.heap.size W0 (W0.alloc (.cells #[.bool t.neg, .slice t.A t.n t.c, .int .i64 t.e.1, .int .i64 t.e.2.1, .int .i64 t.e.2.2.1, .int .i64 t.e.2.2.2] 80)) := (Below.refl _ _).alloc (Nat.le_refl _) _
      have hTB : TBox (W0.alloc (.cells #[.bool t.neg, .slice t.A t.n t.c, .int .i64 t.e.1, .int .i64 t.e.2.1, .int .i64 t.e.2.2.1, .int .i64 t.e.2.2.2] 80)) W0.heap.size t.neg t.A t.n t.c t.e := heap_alloc_new W0 _
      have hM2 := hM.later hal
      have hcf3 := hcf2.below hal (Nat.le_refl _)
      obtain ⟨W2, hW2⟩ : ∃ y, y = (W0.alloc (.cells #[.bool t.neg, .slice t.A t.n t.c, .int .i64 t.e.1, .int .i64 t.e.2.1, .int .i64 t.e.2.2.1, .int .i64 t.e.2.2.2] 80)) := ⟨_, rfl⟩
      obtain ⟨g, hg⟩ : ∃ g, g = W0.heap.size := ⟨_, rfl⟩
      have hgW2 : g < W2.heap.size := by rw [hW2, hg]; simp
      rw [← hW2, ← hg] at hTB
      rw [← hW2] at hM2 hcf3 hal
      have HGW := Lib.hid (show w1.heap.size ≤ g by omega)
      have HOW := Lib.hid (show u7.ownBlock ≠ some g from fun e => by have := own_lt hM.own g e; omega)
      go_upto_region 7 with (fail)
      rw [← hW2, ← hg]
      clear hW2 hg hM hcf2 c0 c1 d0 d1 d2 d3 hb
      have hxj := hTB.exCell j hj
      have hwrap : IntKind.i64.wrap (j : Int) = (j : Int) := IntWalk.i64_in _ (by omega)
      by_cases he : ex t.e j = d
      · have hTS := hTB.setJ j hj
        obtain ⟨r0, r1, r2, r3, r4, r5⟩ := hTS.six
        have hfz := hTB.frozen
        have hst : M1 B w1 (coefL j d (a.take k)) u7 L1 (W2.setCell ⟨g, 2 + j, none⟩ (.int .i64 0)) := hM2.setFar HGW.out HOW.out (by have := HGW.out; omega) hTB.ty _ _
        have hcs : CoefC B (W2.setCell ⟨g, 2 + j, none⟩ (.int .i64 0)) t p.1 := ⟨hcf3.1, hcf3.2.setCell (p := ⟨g, 2 + j, none⟩) (by have := HGW.out; show B ≤ g; omega) hTB.ty (by decide) _⟩
        have HE := Lib.hid (show coefL j d (a.take (k + 1)) = coefL j d (a.take k) ++ [(p.1, zeroE j p.2)] by rw [coefL_step HP.out, if_pos (by rw [← HTE.out]; exact he)])
        have hed : (ex t.e j == d) = true := by rw [beq_iff_eq]; exact he
        generalize ex t.e j = x at *
        have HEE := Lib.hid he
        clear he hM2 hTS hTB
        obtain ⟨W3, hW3⟩ : ∃ y, y = W2.setCell ⟨g, 2 + j, none⟩ (.int .i64 0) := ⟨_, rfl⟩
        have hs3 : W2.heap.size ≤ W3.heap.size := by rw [hW3]; simp [World.setCell]
        have hw13 : w1.heap.size ≤ W3.heap.size := by have := HGW.out; omega
        go_upto_region 9 with (fail)
        rw [← hW3] at hst hcs r0 r1 r2 r3 r4 r5 ⊢
        clear hW3 hxj hfz
        have hal3 : Below W3.heap.size W3 (W3.alloc (.cells #[.bool t.neg, .slice t.A t.n t.c, .int .i64 (zeroE j t.e).1, .int .i64 (zeroE j t.e).2.1, .int .i64 (zeroE j t.e).2.2.1, .int .i64 (zeroE j t.e).2.2.2] 80)) := (Below.refl _ _).alloc (Nat.le_refl _) _
        have hM5 := hst.later hal3
        have hd5 := hcs.below hal3 (Nat.le_refl _)
        go_wp2_with (at_builtin; refine wpList_append_lies _ rfl _ _ _ rfl w1.heap.size 80 i0 _ 6 64 Try.underlying26 hi0 hz0 hz1 hz2 rfl (by omega) u7 L1.length (flat L1) rfl hM5.own ⟨W3.heap.size, 0, none⟩ 1 1 (flat [⟨t.neg, t.A, t.n, t.c, zeroE j t.e⟩]) rfl rfl (World.news_of_block (cs := #[.bool t.neg, .slice t.A t.n t.c, .int .i64 (zeroE j t.e).1, .int .i64 (zeroE j t.e).2.1, .int .i64 (zeroE j t.e).2.2.1, .int .i64 (zeroE j t.e).2.2.2]) (t := 80) (fr := (0, 0)) (heap_alloc_new W3 _)) (flat_one _) (by omega) (by simp only [maxLen]; omega) (by omega) (by simp; omega) (W3.heap.size + 1) (by simp) ?_; intro gg cap w3 hown3 hgrow hat hlt3)
        have hM6 := hM5.push (p := (p.1, zeroE j p.2)) (t := ⟨t.neg, t.A, t.n, t.c, zeroE j t.e⟩) (by show zeroE j t.e = zeroE j p.2; rw [HTE.out]) hown3 hgrow hd5 (by omega)
        clear hM5 hd5 hown3 hgrow hat hst hcs
        go_wp2
        go_roundw
        case rel => exact ⟨k + 1, _, by omega, by go_num, by rw [HE.out]; exact hM6⟩
        case measure => simp [intOf]; omega
      · have HE := Lib.hid (show coefL j d (a.take (k + 1)) = coefL j d (a.take k) by rw [coefL_step HP.out, if_neg (by rw [← HTE.out]; exact he)])
        have hed : (ex t.e j == d) = false := by rw [beq_eq_false_iff_ne]; exact he
        generalize ex t.e j = x at *
        clear he
        go_wp2_with fail
        go_roundw
        case rel => exact ⟨k + 1, L1, by omega, by go_num, by rw [HE.out]; exact hM2⟩
        case measure => simp [intOf]; omega
    · obtain rfl : k = n' := by omega
      have hM9 := hM
      rw [List.take_of_length_le (by rw [h1.len]; exact Nat.le_refl _)] at hM9
      obtain ⟨A5, c5, rfl⟩ := own_slice hM9.own
      have hP5 := Lib.hid (show PolyC B W0 A5 L1.length c5 _ from ⟨L1, Row.of_own hM9.own, hM9.reps⟩)
      have hbb := Lib.hid hM9.below
      clear hM9 hM
      go_wp2
      go_ret
      exact ⟨_, _, _, rfl, hP5.out, hb1.trans (hbb.out.mono hws)⟩
end Go.Proofs.Ytnknidfpkmnncaa
