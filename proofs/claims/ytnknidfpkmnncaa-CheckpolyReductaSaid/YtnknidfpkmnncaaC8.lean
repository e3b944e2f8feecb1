/- checkpoly.Normal. -/
import Derived.Test.YtnknidfpkmnncaaC9
import Derived.Deep.RegionWith
namespace Go.Proofs.Ytnknidfpkmnncaa
open Go.RowKit

theorem valids_take (al : List Tm) (k : Nat) (p : Tm) (h : al[k]? = some p) : valids (al.take (k + 1)) = if validE p.2 then valids (al.take k) ++ [p] else valids (al.take k) := by
  have h1 := List.getElem?_eq_some_iff.1 h
  rw [List.take_succ_eq_append_getElem h1.1, h1.2]
  unfold valids
  rw [List.filter_append]
  by_cases hv : validE p.2 = true
  · simp [hv]
  · simp [hv]
theorem valids_le (al : List Tm) (k : Nat) : (valids (al.take k)).length ≤ k := by
  have h1 := List.length_filter_le (fun p => validE p.2) (al.take k)
  have h2 := List.length_take_le k al
  unfold valids
  exact Nat.le_trans h1 h2

/-- The state of Normal's first loop: the row v bears the first k valid terms. -/
structure N1 (B : Nat) (w : World) (al : List Tm) (k : Nat) (v : Value) (L : List TV) (wr : World) : Prop where
  own : wr.ownsRow w.heap.size 80 6 v L.length (flat L)
  nil : L = [] → v = .slice none 0 0
  reps : Reps (CoefC B wr) L (valids (al.take k))
  below : Below w.heap.size w wr
theorem N1.start (B : Nat) (w : World) (al : List Tm) : N1 B w al 0 (.slice none 0 0) [] w :=
  ⟨World.ownsRow_nil _ _ _ _, fun _ => rfl, by simp [valids, Reps], Below.refl _ _⟩
theorem N1.later {B : Nat} {w : World} {al : List Tm} {k : Nat} {v : Value} {L : List TV} {wr w1 : World} (h : N1 B w al k v L wr) (hb : Below wr.heap.size wr w1) : N1 B w al k v L w1 :=
  ⟨own_below h.own hb, h.nil, h.reps.mono fun t z _ hr => hr.below hb (Nat.le_refl _), h.below.trans (hb.mono h.below.size)⟩
theorem N1.drop {B : Nat} {w : World} {al : List Tm} {k : Nat} {v : Value} {L : List TV} {wr : World} (h : N1 B w al k v L wr) {p : Tm} (hp : al[k]? = some p) (hv : validE p.2 = false) : N1 B w al (k + 1) v L wr :=
  ⟨h.own, h.nil, by rw [valids_take al k p hp, hv]; exact h.reps, h.below⟩

/-- The six cells of a term's box. -/
abbrev Held6 (w' : World) (H : Nat) (t : TV) : Prop :=
  w'.cell? ⟨H, 0, none⟩ = some (.bool t.neg) ∧ w'.cell? ⟨H, 1, none⟩ = some (.slice t.A t.n t.c) ∧ w'.cell? ⟨H, 2, none⟩ = some (.int .i64 t.e.1) ∧ w'.cell? ⟨H, 3, none⟩ = some (.int .i64 t.e.2.1) ∧ w'.cell? ⟨H, 4, none⟩ = some (.int .i64 t.e.2.2.1) ∧ w'.cell? ⟨H, 5, none⟩ = some (.int .i64 t.e.2.2.2)

theorem own_lt {w : World} {base : Nat} {e : TypeId} {size n : Nat} {v : Value} {xs : List Value} (h : w.ownsRow base e size v n xs) (k : Nat) (hk : v.ownBlock = some k) : k < w.heap.size := by
  rcases h.2 with ⟨rfl, _⟩ | ⟨g, cap, cur, rfl, hb, hh, _⟩
  · simp [Value.ownBlock] at hk
  · have : g = k := by simpa [Value.ownBlock] using hk
    subst this
    exact (Array.getElem?_eq_some_iff.1 hh).1
theorem held6_below {w w' : World} {H : Nat} {t : TV} (h : Held6 w H t) (hb : Below w.heap.size w w') (hH : H < w.heap.size) : Held6 w' H t := by
  obtain ⟨hc, _⟩ := bcell hb
  unfold Held6
  rw [hc _ _ hH, hc _ _ hH, hc _ _ hH, hc _ _ hH, hc _ _ hH, hc _ _ hH]
  exact h
theorem held6_box {w : World} {H : Nat} {t : TV} (h : Held6 w H t) (hH : H < w.heap.size) (neg : Bool) (A : Option Addr) (n c : Nat) (e : Ex) :
    Held6 (w.alloc (.cells #[.bool neg, .slice A n c, .int .i64 e.1, .int .i64 e.2.1, .int .i64 e.2.2.1, .int .i64 e.2.2.2] 80)) H t := held6_below h ((Below.refl _ _).alloc (Nat.le_refl _) _) hH
theorem held6_grown {w w' : World} {H : Nat} {t : TV} {row : Option Nat} (h : Held6 w H t) (hg : w.grownBy w' row) (hr : ∀ g, row = some g → g < H) (hH : H < w.heap.size) : Held6 w' H t := by
  have hc : ∀ o, w'.cell? ⟨H, o, none⟩ = w.cell? ⟨H, o, none⟩ := fun o => hg.cell_far ⟨H, o, none⟩ hH (fun e => by have := hr H e.symm; omega)
  unfold Held6
  rw [hc, hc, hc, hc, hc, hc]
  exact h
theorem N1.box {B : Nat} {w : World} {al : List Tm} {k : Nat} {v : Value} {L : List TV} {wr : World} (h : N1 B w al k v L wr) (neg : Bool) (A : Option Addr) (n c : Nat) (e : Ex) :
    N1 B w al k v L (wr.alloc (.cells #[.bool neg, .slice A n c, .int .i64 e.1, .int .i64 e.2.1, .int .i64 e.2.2.1, .int .i64 e.2.2.2] 80)) := h.later ((Below.refl _ _).alloc (Nat.le_refl _) _)

theorem N1.push {B : Nat} {w : World} {al : List Tm} {k : Nat} {v : Value} {L : List TV} {wr w3 : World} {p : Tm} {A : Option Addr} {n c g cap : Nat} {e : Ex} (h : N1 B w al k v L wr) (hp : al[k]? = some p) (he : e = p.2) (hv : validE e = true)
    (hown : w3.ownsRow w.heap.size 80 6 (.slice (some ⟨g, 0, none⟩) (L.length + 1) cap) (L.length + 1) (flat L ++ flat [⟨decide (p.1 < 0), A, n, c, e⟩])) (hg : wr.grownBy w3 v.ownBlock)
    (hd : Dig B wr A n c (digs p.1.natAbs)) (hB : B ≤ w.heap.size) : N1 B w al (k + 1) (.slice (some ⟨g, 0, none⟩) (L.length + 1) cap) (L ++ [⟨decide (p.1 < 0), A, n, c, e⟩]) w3 := by
  have hne : 109 ≠ 80 := by decide
  refine ⟨by rw [List.length_append, flat_append]; exact hown, fun h0 => by simp at h0, ?_, h.below.grown hg h.below.size (fun k hk => own_base h.own k hk)⟩
  rw [valids_take al k p hp, if_pos (by rw [← he]; exact hv)]
  have hc : CoefC B wr ⟨decide (p.1 < 0), A, n, c, e⟩ p.1 := ⟨rfl, hd⟩
  exact (h.reps.mono fun t z _ hr => hr.grown h.own hg hB hne).append (Reps.one (z := p.1) he (hc.grown h.own hg hB hne))

theorem Coef.unique {B : Nat} {w : World} {t : TV} {z z' : Int} (h : Coef B w t z) (h' : Coef B w t z') : z = z' := by
  obtain ⟨xs, hd, rfl⟩ := h
  obtain ⟨ys, hd', rfl⟩ := h'
  have : xs = ys := dg_ext (by rw [hd.len, hd'.len]) fun k hk => by
    obtain ⟨ad, ha, hc⟩ := hd.cell k (by rw [← hd.len]; exact hk)
    obtain ⟨ad', ha', hc'⟩ := hd'.cell k (by rw [← hd.len]; exact hk)
    rw [ha] at ha'
    injection ha' with ha'
    subst ha'
    rw [hc] at hc'
    injection hc' with hc'
    injection hc' with _ hc'
    omega
  rw [this]
/-- The coefficient of a term, as the world has it. -/
noncomputable def zcOf (B : Nat) (w : World) (t : TV) : Int := Classical.epsilon fun z => Coef B w t z
theorem zcOf_spec {B : Nat} {w : World} {t : TV} {z : Int} (h : Coef B w t z) : Coef B w t (zcOf B w t) := Classical.epsilon_spec ⟨z, h⟩
theorem zcOf_eq {B : Nat} {w : World} {t : TV} {z : Int} (h : Coef B w t z) : zcOf B w t = z := (zcOf_spec h).unique h
/-- The state of Normal's second loop: the row v bears the merged terms of the first k of sl. -/
structure N2 (B : Nat) (w2 : World) (sl : List Tm) (k : Nat) (v : Value) (L : List TV) (wr : World) : Prop where
  own : wr.ownsRow w2.heap.size 80 6 v L.length (flat L)
  nil : L = [] → v = .slice none 0 0
  reps : Reps (CoefC B wr) L (merged (sl.take k))
  below : Below w2.heap.size w2 wr
theorem N2.start (B : Nat) (w2 : World) (sl : List Tm) : N2 B w2 sl 0 (.slice none 0 0) [] w2 :=
  ⟨World.ownsRow_nil _ _ _ _, fun _ => rfl, by simp [merged, Reps], Below.refl _ _⟩
theorem N2.later {B : Nat} {w : World} {sl : List Tm} {k : Nat} {v : Value} {L : List TV} {wr w1 : World} (h : N2 B w sl k v L wr) (hb : Below wr.heap.size wr w1) : N2 B w sl k v L w1 :=
  ⟨own_below h.own hb, h.nil, h.reps.mono fun t z _ hr => hr.below hb (Nat.le_refl _), h.below.trans (hb.mono h.below.size)⟩
theorem N2.push {B : Nat} {w2 : World} {sl : List Tm} {k n : Nat} {v : Value} {L : List TV} {wr w3 : World} {p : Tm} {t : TV} {g cap : Nat} (h : N2 B w2 sl k v L wr) (hn : L.length = n) (hp : sl[k]? = some p) (he : t.e = p.2) (hm : merged (sl.take (k + 1)) = merged (sl.take k) ++ [p])
    (hown : w3.ownsRow w2.heap.size 80 6 (.slice (some ⟨g, 0, none⟩) (n + 1) cap) (n + 1) (flat L ++ flat [t])) (hg : wr.grownBy w3 v.ownBlock)
    (hd : CoefC B wr t p.1) (hB : B ≤ w2.heap.size) : N2 B w2 sl (k + 1) (.slice (some ⟨g, 0, none⟩) (n + 1) cap) (L ++ [t]) w3 := by
  have hne : 109 ≠ 80 := by decide
  subst hn
  refine ⟨by rw [List.length_append, flat_append]; exact hown, fun h0 => by simp at h0, ?_, h.below.grown hg h.below.size (fun k hk => own_base h.own k hk)⟩
  rw [hm]
  exact (h.reps.mono fun t z _ hr => hr.grown h.own hg hB hne).append (Reps.one (z := p.1) he (hd.grown h.own hg hB hne))
theorem N2.own' {B : Nat} {w2 : World} {sl : List Tm} {k n : Nat} {v : Value} {L : List TV} {wr : World} (h : N2 B w2 sl k v L wr) (hn : L.length = n) : wr.ownsRow w2.heap.size 80 6 v n (flat L) := by
  subst hn; exact h.own
theorem Reps.last {R : TV → Int → Prop} {O : List TV} {s : TV} {am : List Tm} (h : Reps R (O ++ [s]) am) : ∃ a z, am = a ++ [(z, s.e)] ∧ Reps R O a ∧ R s z := by
  obtain ⟨a, b, rfl, h1, h2⟩ := h.split
  match b, h2 with
  | [q], h2 => exact ⟨a, q.1, by rw [h2.1], h1, h2.2.1⟩
  | [], h2 => exact h2.elim
  | _ :: _ :: _, h2 => exact h2.2.2.elim
theorem CoefC.value {B : Nat} {w : World} {t : TV} {z : Int} (h : CoefC B w t z) : iv t.neg (val (digs z.natAbs)) = z := by
  rw [val_digs, h.1]
  unfold iv
  by_cases hz : z < 0
  · rw [if_pos (by simpa using hz)]; omega
  · rw [if_neg (by simpa using hz)]; omega
theorem flat_set2 (O : List TV) (s : TV) (o : Nat) (ho : O.length = o) (neg : Bool) (A : Option Addr) (n c : Nat) : ((flat (O ++ [s])).set (o * 6) (.bool neg)).set (o * 6 + 1) (.slice A n c) = flat (O ++ [⟨neg, A, n, c, s.e⟩]) := by
  subst ho
  rw [flat_append, flat_append, ← flat_length O, List.set_append_right _ _ (Nat.le_refl _), List.set_append_right _ _ (by omega)]
  simp [flat, TV.cells]
theorem own_set2 {w : World} {base g o cap : Nat} {O : List TV} {s : TV} (h : w.ownsRow base 80 6 (.slice (some ⟨g, 0, none⟩) (o + 1) cap) (o + 1) (flat (O ++ [s]))) (ho : O.length = o) (neg : Bool) (A : Option Addr) (n c : Nat) :
    ((w.setCell ⟨g, o * 6, none⟩ (.bool neg)).setCell ⟨g, o * 6 + 1, none⟩ (.slice A n c)).ownsRow base 80 6 (.slice (some ⟨g, 0, none⟩) (o + 1) cap) (o + 1) (flat (O ++ [⟨neg, A, n, c, s.e⟩])) := by
  refine ⟨by simp [flat_length, ho], ?_⟩
  rcases h.2 with ⟨he, _⟩ | ⟨g', cap', cur, he, hb, hh, hn, hm, hsz, ht⟩
  · cases he
  · injection he with he h2 h3
    injection he with he
    injection he with he _ _
    subst he h3
    refine .inr ⟨g, cap, (cur.setIfInBounds (o * 6) (.bool neg)).setIfInBounds (o * 6 + 1) (.slice A n c), rfl, hb, ?_, hn, hm, by simpa using hsz, ?_⟩
    · simp [World.setCell, Array.getElem?_modify, hh]
    · rw [← flat_set2 O s o ho, ← ht]
      simp [List.take_set]
theorem N2.sum {B : Nat} {w2 : World} {sl : List Tm} {k o : Nat} {O : List TV} {s : TV} {wr : World} {g cap : Nat} (h : N2 B w2 sl k (.slice (some ⟨g, 0, none⟩) (o + 1) cap) (O ++ [s]) wr) (ho : O.length = o) {a : List Tm} {z : Int} (hm : merged (sl.take (k + 1)) = a ++ [(z, s.e)])
    (hO : Reps (CoefC B wr) O a) {A : Option Addr} {n c : Nat} (hd : Dig B wr A n c (digs z.natAbs)) (hB : B ≤ w2.heap.size) :
    N2 B w2 sl (k + 1) (.slice (some ⟨g, 0, none⟩) (o + 1) cap) (O ++ [⟨decide (z < 0), A, n, c, s.e⟩]) ((wr.setCell ⟨g, o * 6, none⟩ (.bool (decide (z < 0)))).setCell ⟨g, o * 6 + 1, none⟩ (.slice A n c)) := by
  have hl : (O ++ [s]).length = o + 1 := by simp [ho]
  have hown := h.own' hl
  have hg : w2.heap.size ≤ g := own_base hown g rfl
  have hT := (Terms.of_own hown).ty
  have hne : 109 ≠ 80 := by decide
  have keepD : ∀ {A' : Option Addr} {n' c' : Nat} {xs : List Nat}, Dig B wr A' n' c' xs → Dig B ((wr.setCell ⟨g, o * 6, none⟩ (.bool (decide (z < 0)))).setCell ⟨g, o * 6 + 1, none⟩ (.slice A n c)) A' n' c' xs := fun hx =>
    (hx.setCell (p := ⟨g, o * 6, none⟩) (by show B ≤ g; omega) hT hne _).setCell (p := ⟨g, o * 6 + 1, none⟩) (by show B ≤ g; omega) (hT.setCell _ _) hne _
  refine ⟨?_, fun h0 => by simp at h0, ?_, (h.below.setCell hg _).setCell hg _⟩
  · have h1 := own_set2 hown ho (decide (z < 0)) A n c
    have h2 : (O ++ [(⟨decide (z < 0), A, n, c, s.e⟩ : TV)]).length = o + 1 := by simp [ho]
    rw [h2]
    exact h1
  · rw [hm]
    exact (hO.mono fun t z' _ hr => ⟨hr.1, keepD hr.2⟩).append (Reps.one (z := z) rfl ⟨rfl, keepD hd⟩)
theorem merge_other {R : TV → Int → Prop} {O : List TV} {s : TV} {am : List Tm} (h : Reps R (O ++ [s]) am) {p : Tm} (hp : s.e ≠ p.2) : mstep am p = am ++ [p] := by
  obtain ⟨a, z, rfl, _, _⟩ := h.last
  exact mstep_other a _ p hp
theorem merged_take (sl : List Tm) (k : Nat) (p : Tm) (h : sl[k]? = some p) : merged (sl.take (k + 1)) = mstep (merged (sl.take k)) p := by
  have h1 := List.getElem?_eq_some_iff.1 h
  rw [List.take_succ_eq_append_getElem h1.1, h1.2, merged_snoc]

/-- What comes back reads as the polynomial al, in a new block; what existed is as it was. -/
def PolyF (B : Nat) (al : List Tm) (w : World) (e : Ending) (w' : World) : Prop :=
  ∃ A' n' c', e = .returned (.slice A' n' c') ∧ PolyC B w' A' n' c' al ∧ Below w.heap.size w w' ∧ ∀ ad, A' = some ad → w.heap.size ≤ ad.block

set_option maxRecDepth 100000 in
set_option maxHeartbeats 4000000 in
theorem normalp_new (B : Nat) (A : Option Addr) (n c : Nat) (al : List Tm) (w : World) (hB : B ≤ w.heap.size) (h : PolyW B w A n c al) (hn : n < sortLim) (hl : l1 al < big) :
    Calls Try.prog 14 #[.slice A n c] w (PolyF B (nf al) w) := by
  obtain ⟨i0, hi0, hz0, hz1, hz2⟩ := info_parts terminfo
  obtain ⟨L, hP⟩ := h
  have hcap := hP.row.cap
  have hbd := hP.row.bd
  have hnl : n ≤ 1073741824 := by unfold sortLim at hn; omega
  have HL := Lib.hid hl
  clear hl
  go_enter Try.func14, Try.ntmps14
  go_wp2
  go_loopw [3, 12] (fun v i wr => ∃ (k : Nat) (L1 : List TV), k ≤ n ∧ i = .int .i64 k ∧ N1 B w al k v L1 wr) (fun _ i _ => n - (intOf i).toNat)
  case atStart => exact ⟨0, [], Nat.zero_le _, rfl, N1.start B w al⟩
  case round =>
    obtain ⟨k, L1, hk, rfl, hN⟩ := hrel
    by_cases hlt : k < n
    · obtain ⟨b, off, rfl, hbl, hcells⟩ := hP.row.six (by omega)
      obtain ⟨t, ht⟩ : ∃ t, L[k]? = some t := ⟨_, List.getElem?_eq_getElem (by rw [hP.lenL]; exact hlt)⟩
      obtain ⟨p, hp, hte, hco⟩ := hP.reps.at_ ht
      obtain ⟨c0, c1, c2, c3, c4, c5⟩ := hcells k t ht
      have hbb := hN.below
      have hgw := hbb.size
      have hgl := fun g hg => own_lt hN.own g hg
      replace c0 := (hbb.cell (by exact hbl)).trans c0
      replace c1 := (hbb.cell (by exact hbl)).trans c1
      replace c2 := (hbb.cell (by exact hbl)).trans c2
      replace c3 := (hbb.cell (by exact hbl)).trans c3
      replace c4 := (hbb.cell (by exact hbl)).trans c4
      replace c5 := (hbb.cell (by exact hbl)).trans c5
      have hco1 := hco.below hbb (Nat.le_refl _)
      have HPk := Lib.hid hp
      have HTE := Lib.hid hte
      have i1 : (0 : Int) ≤ (k : Int) := by omega
      have i2 : (k : Int) < (n : Int) := by omega
      have hbox := (Terms.box wr t)
      have hbxb : Below wr.heap.size wr (wr.alloc (.cells #[.bool t.neg, .slice t.A t.n t.c, .int .i64 t.e.1, .int .i64 t.e.2.1, .int .i64 t.e.2.2.1, .int .i64 t.e.2.2.2] 80)) := (Below.refl _ _).alloc (Nat.le_refl _) _
      clear hcells ht hp hte hco hbb
      go_wp2_with fail
      refine (valid_any t.e _).mono ?_
      rintro e' w1 ⟨rfl, hb1⟩
      have hb2 := hbxb.trans (hb1.mono (by simp))
      have hN1 := hN.later hb2
      have hco2 := hco1.below hb2 (Nat.le_refl _)
      have hbx1 := (hbox.below hb1).six (i := 0) (t := t) rfl
      have hs1 : wr.heap.size < w1.heap.size := by have := hb1.size; simp at this; omega
      clear hb1 hbxb hbox hN c0 c1 c2 c3 c4 c5 hco1
      by_cases hv : validE t.e = true
      · have hx0 : Held6 w1 wr.heap.size t := by simpa only [Nat.zero_mul, Nat.zero_add] using hbx1
        have hx1 : Held6 w1.drew wr.heap.size t := hx0
        have hN2 := hN1.later ((Below.refl _ _).drew)
        obtain ⟨⟨xs, hdx, hzx⟩, htn⟩ := hco2
        have hdx2 := hdx.drew
        have HZ := Lib.hid hzx
        have hown0 : ∀ g, u3.ownBlock = some g → g < wr.heap.size := hgl
        have hBw : B ≤ w1.drew.heap.size := by show B ≤ w1.heap.size; have := hN1.below.size; omega
        have hL1 : L1.length ≤ k := by have h1 := hN1.reps.length; have h2 := valids_le al k; omega
        have hws : w.heap.size ≤ wr.heap.size := hgw
        clear hzx hdx hN1
        go_wp2_with fail
        go_region_held3 (fun w' => Held6 w' wr.heap.size t) (first | exact hx1 | exact hx2 | exact hx2a | exact hx3 | go_keep)
          (first
            | (go_at_call 44; ((with_reducible refine (inormal_any B t.neg t.A t.n t.c xs _ hBw hdx2 htn).mono ?_); rw [HZ.out]; rintro e2 w2 ⟨A2, n2, c2, rfl, h2, hbw2⟩; have hN3 := hN2.later hbw2; have hx2 := held6_below hx1 hbw2 hs1; have hs2 : wr.heap.size < w2.heap.size := Nat.lt_of_lt_of_le hs1 hbw2.size; have hx2a := held6_box hx2 hs2 (decide (p.1 < 0)) A2 n2 c2 t.e; have hN4 := hN3.box (decide (p.1 < 0)) A2 n2 c2 t.e))
            | (refine step_append_lies _ (by rfl) _ _ _ (by rfl) w.heap.size 80 i0 _ 6 64 Try.underlying26 hi0 hz0 hz1 hz2 rfl (by omega) u3 L1.length (flat L1) (by rfl) hN4.own ⟨w2.heap.size, 0, none⟩ 1 1 (flat [⟨decide (p.1 < 0), A2, n2, c2, t.e⟩]) (by rfl) (by rfl) (World.news_of_block (cs := #[.bool (decide (p.1 < 0)), .slice A2 n2 c2, .int .i64 t.e.1, .int .i64 t.e.2.1, .int .i64 t.e.2.2.1, .int .i64 t.e.2.2.2]) (t := 80) (fr := (0, 0)) (heap_alloc_new w2 _)) (flat_one _) (by omega) (by simp only [maxLen]; omega) (by omega) (by simp; omega) (w2.heap.size + 1) (by simp) ?_; intro gg cap w3 hown3 hgrow hat hlt3; have hx3 := held6_grown hx2a hgrow hown0 (by simp; omega)))
        have hN5 := hN4.push HPk.out HTE.out hv hown3 hgrow (h2.below (((Below.refl _ _).alloc (Nat.le_refl _) _)) (Nat.le_refl _)) hB
        clear hx0 hx1 hx2 hx2a hx3 hN2 hN3 hN4 hown3 hgrow h2 hdx2 hbx1 hbw2 hat
        go_wp2
        go_roundw
        case rel => exact ⟨k + 1, _, by omega, by go_num, hN5⟩
        case measure => simp [intOf]; omega
      · have hv' : validE t.e = false := by simpa using hv
        have hN3 := hN1.drop HPk.out (by rw [← HTE.out]; exact hv')
        clear hv hN1 hbx1 hco2
        go_wp2
        go_roundw
        case rel => exact ⟨k + 1, L1, by omega, by go_num, hN3⟩
        case measure => simp [intOf]; omega
    · have hkn : k = n := by omega
      subst hkn
      have hval : valids (al.take k) = valids al := by rw [List.take_of_length_le (by rw [hP.len]; exact Nat.le_refl _)]
      rcases Nat.eq_zero_or_pos L1.length with h0 | h0
      · have hL1 : L1 = [] := List.eq_nil_of_length_eq_zero h0
        subst hL1
        have hv0 := hN.nil rfl
        subst hv0
        have hnf : nf al = [] := by
          have h2 := hN.reps.length
          rw [hval] at h2
          unfold nf
          rw [List.eq_nil_of_length_eq_zero h2.symm]
          rfl
        have HNF := Lib.hid hnf
        have HB := Lib.hid hN.below
        clear hN hnf hval hP
        go_wp2_with fail
        refine (sort_nil _).mono ?_
        rintro e' w1 ⟨rfl, rfl⟩
        go_wp2
        go_loop [6, 33] (fun v i => v = .slice none 0 0 ∧ i = .int .i64 0) (fun _ _ => 0)
        case atStart => exact ⟨rfl, rfl⟩
        case round =>
          obtain ⟨rfl, rfl⟩ := hrel
          go_wp2_with fail
          refine (delete_nil _).mono ?_
          rintro e' w1 ⟨rfl, rfl⟩
          go_wp2
          go_ret
          exact ⟨none, 0, 0, rfl, by rw [HNF.out]; exact PolyC.nil, HB.out, fun ad h => by cases h⟩
      · obtain ⟨g, cap, rfl, hgB, hgl⟩ := hN.own.form h0
        have hT := Terms.of_own hN.own
        have hcp := (Row.of_own (B := B) hN.own).cap
        have hcb := (Row.of_own (B := B) hN.own).bd
        have hm : L1.length ≤ k := by have h1 := hN.reps.length; have h2 := valids_le al k; omega
        have hBg : B ≤ g := by omega
        have hRep := hN.reps
        rw [hval] at hRep
        have hB1 := hN.below
        have hTy := hT.ty
        clear hval hN
        go_wp2_with fail
        refine (sort_any g cap L1.length L1 _ hT rfl hcp hcb (by omega) (by omega)).mono ?_
        rintro e' w2 ⟨rfl, M, hM, hsM, hT2, hO2⟩
        simp only [List.nil_append, List.append_nil] at hT2
        have hml : M.length = L1.length := hM.length_eq
        obtain ⟨sl, hsl, hRs⟩ := (hRep.perm hM)
        have hRs2 := hRs.mono fun t z _ hr => hr.only hO2 hBg hTy (by decide)
        have hfin := normal_eq hsl (hRs2.pairwise hsM)
        have hB2 : Below w.heap.size w w2 := hB1.grown hO2 hB1.size (fun k hk => by injection hk with hk; omega)
        have hg2 := hT2.lt
        have hws2 := hB2.size
        have hsln : sl.length = L1.length := by rw [← hRs2.length, hml]
        have hll : l1 sl < big := by rw [l1_perm hsl]; exact Nat.lt_of_le_of_lt (l1_filter _ _) HL.out
        have hsv : ∀ q ∈ sl, validE q.2 = true := fun q hq => valids_valid al q (hsl.mem_iff.1 hq)
        have HF := Lib.hid hfin
        have HML := Lib.hid hml
        have HSL := Lib.hid hsln
        have HLL := Lib.hid hll
        have HPW := Lib.hid (hRs2.pairwise hsM)
        have HSV := Lib.hid hsv
        generalize L1.length = m at *
        clear hRep hRs hM hsM hsl hfin hml hsln hll hT hO2 hB1 hsv
        go_wp2
        go_loopw [6, 33] (fun v i wr => ∃ (k : Nat) (Lo : List TV), k ≤ m ∧ i = .int .i64 k ∧ N2 B w2 sl k v Lo wr) (fun _ i _ => m - (intOf i).toNat)
        case atStart => exact ⟨0, [], Nat.zero_le _, rfl, N2.start B w2 sl⟩
        case round =>
          obtain ⟨j, Lo, hj, rfl, hN⟩ := hrel
          by_cases hlt : j < m
          · obtain ⟨t, ht⟩ : ∃ t, M[j]? = some t := ⟨_, List.getElem?_eq_getElem (by rw [HML.out]; exact hlt)⟩
            obtain ⟨p, hp, hte, hco⟩ := hRs2.at_ ht
            have hT3 := hT2.below hN.below
            obtain ⟨c0, c1, c2, c3, c4, c5⟩ := hT3.six ht
            have hco1 := hco.below hN.below (Nat.le_refl _)
            have HPk := Lib.hid hp
            have HTE := Lib.hid hte
            have i1 : (0 : Int) ≤ (j : Int) := by omega
            have i2 : (j : Int) < (m : Int) := by omega
            have hbox := (Terms.box wr t)
            have hbxb : Below wr.heap.size wr (wr.alloc (.cells #[.bool t.neg, .slice t.A t.n t.c, .int .i64 t.e.1, .int .i64 t.e.2.1, .int .i64 t.e.2.2.1, .int .i64 t.e.2.2.2] 80)) := (Below.refl _ _).alloc (Nat.le_refl _) _
            have hN2 := hN.later hbxb
            have hco2 := hco1.below hbxb (Nat.le_refl _)
            clear ht hp hte hco
            rcases List.eq_nil_or_concat Lo with rfl | ⟨O, s, rfl⟩
            · have hv0 := hN.nil rfl
              subst hv0
              have HMS := Lib.hid (show merged (sl.take (j + 1)) = merged (sl.take j) ++ [p] by
                have h1 := hN2.reps.length
                rw [merged_take sl j p HPk.out, List.eq_nil_of_length_eq_zero h1.symm]; rfl)
              go_upto_region 14 with (fail)
              go_quiet (fail)
              obtain ⟨W, hW⟩ : ∃ W, W = (wr.alloc (.cells #[.bool t.neg, .slice t.A t.n t.c, .int .i64 t.e.1, .int .i64 t.e.2.1, .int .i64 t.e.2.2.1, .int .i64 t.e.2.2.2] 80)).drewN nq := ⟨_, rfl⟩
              rw [← hW]
              have hdr : Below (wr.alloc (.cells #[.bool t.neg, .slice t.A t.n t.c, .int .i64 t.e.1, .int .i64 t.e.2.1, .int .i64 t.e.2.2.1, .int .i64 t.e.2.2.2] 80)).heap.size (wr.alloc (.cells #[.bool t.neg, .slice t.A t.n t.c, .int .i64 t.e.1, .int .i64 t.e.2.1, .int .i64 t.e.2.2.1, .int .i64 t.e.2.2.2] 80)) W := by rw [hW]; exact ((Drawn.refl _).drewN nq).below _
              clear hW
              have hN3 := hN2.later hdr
              have hco3 := hco2.below hdr (Nat.le_refl _)
              obtain ⟨b0, b1, b2, b3, b4, b5⟩ := box_six t hdr
              have hwW : w2.heap.size ≤ W.heap.size := hN3.below.size
              have hN5 := hN3.later ((Below.refl _ _).alloc (Nat.le_refl _) (.cells #[.bool t.neg, .slice t.A t.n t.c, .int .i64 t.e.1, .int .i64 t.e.2.1, .int .i64 t.e.2.2.1, .int .i64 t.e.2.2.2] 80))
              clear hN hN2 hdr hbxb hbox hco2 hco1 c0 c1 c2 c3 c4 c5 hT3
              go_wp2_with (at_builtin; refine wpList_append_lies _ rfl _ _ _ rfl w2.heap.size 80 i0 _ 6 64 Try.underlying26 hi0 hz0 hz1 hz2 rfl (by omega) (.slice none 0 0) 0 (flat []) rfl hN5.own ⟨W.heap.size, 0, none⟩ 1 1 (flat [t]) rfl rfl (World.news_of_block (cs := #[.bool t.neg, .slice t.A t.n t.c, .int .i64 t.e.1, .int .i64 t.e.2.1, .int .i64 t.e.2.2.1, .int .i64 t.e.2.2.2]) (t := 80) (fr := (0, 0)) (heap_alloc_new W _)) (flat_one _) (by omega) (by simp only [maxLen]; omega) (by omega) (by simp; omega) (W.heap.size + 1) (by simp) ?_; intro gg cp w3 hown3 hgrow hat hlt3)
              have hN6 := hN5.push rfl HPk.out HTE.out HMS.out hown3 hgrow (hco3.below ((Below.refl _ _).alloc (Nat.le_refl _) _) (Nat.le_refl _)) (by omega)
              clear hN5 hN3 hown3 hgrow hco3 hat
              go_wp2
              go_roundw
              case rel => exact ⟨j + 1, _, by omega, by go_num, hN6⟩
              case measure => simp [intOf]; omega
            · rw [List.concat_eq_append] at *
              have hpos : 0 < (O ++ [s]).length := by simp
              obtain ⟨g2, cap2, rfl, hgB2, hgl2⟩ := hN.own.form hpos
              have hTo := Terms.of_own hN2.own
              have hcp2 := (Row.of_own (B := B) hN.own).cap
              obtain ⟨o, ho⟩ : ∃ o, O.length = o := ⟨_, rfl⟩
              have hlo : (O ++ [s]).length = o + 1 := by simp [ho]
              have hs6 := hTo.six (at_len O s [] o ho)
              obtain ⟨d0, d1, d2, d3, d4, d5⟩ := hs6
              have hom : o + 1 ≤ j := by
                have h1 := hN2.reps.length
                have h2 := (merged_facts (sl.take j) (HPW.out.sublist (List.take_sublist j sl)) (fun q hq => HSV.out q (List.mem_of_mem_take hq))).2.2.2.1
                have h3 := List.length_take_le j sl
                omega
              rw [hlo]
              rw [hlo] at hcp2 hN2
              have HLO := Lib.hid hlo
              have HO := Lib.hid ho
              obtain ⟨e0, e1, e2, e3, e4, e5⟩ := box_six (w := wr) t (Below.refl _ _)
              have r0 : (0 : Int) ≤ (o : Int) := by omega
              have r1 : (o : Int) < (o : Int) + 1 := by omega
              have r2 : IntKind.i64.wrap (o : Int) = (o : Int) := IntWalk.i64_in _ (by omega)
              have r3 : IntKind.i64.wrap ((o : Int) + 1) = (o : Int) + 1 := IntWalk.i64_in _ (by omega)
              have hg0 : decide ((0 : Int) < (o : Int) + 1) = true := by rw [decide_eq_true_eq]; omega
              have heq := fun W => eq_ex s.e t.e W
              have hgd := fun (x y : Operand) (W : World) => guard_ex .eql #[.int .i64 s.e.1, .int .i64 s.e.2.1, .int .i64 s.e.2.2.1, .int .i64 s.e.2.2.2] #[.int .i64 t.e.1, .int .i64 t.e.2.1, .int .i64 t.e.2.2.1, .int .i64 t.e.2.2.2] x y W
              clear hlo ho hpos
              by_cases hee : s.e = t.e
              · have hee' : (s.e == t.e) = true := by rw [beq_iff_eq]; exact hee
                obtain ⟨a, z, ham, hRO, hRz⟩ := hN2.reps.last
                have hzl : z.natAbs < big := by
                  have h1 := (merged_facts (sl.take j) (HPW.out.sublist (List.take_sublist j sl)) (fun q hq => HSV.out q (List.mem_of_mem_take hq))).2.2.1
                  have h2 := l1_take sl j
                  rw [ham, l1_append, l1_cons] at h1
                  have := HLL.out
                  simp only at h1
                  omega
                have hpl : p.1.natAbs < big := Nat.lt_of_le_of_lt (l1_mem (List.mem_of_getElem? HPk.out)) HLL.out
                have HMS := Lib.hid (show merged (sl.take (j + 1)) = a ++ [(z + p.1, s.e)] by
                  rw [merged_take sl j p HPk.out, ham]
                  exact mstep_same a _ p (by rw [← HTE.out]; exact hee))
                have hws := (hRz.wide hzl).2
                have hwt := (hco2.wide hpl).2
                clear hee hzl hpl ham
                go_upto_region 14 with (fail)
                go_quiet (fail)
                obtain ⟨W, hW⟩ : ∃ W, W = (wr.alloc (.cells #[.bool t.neg, .slice t.A t.n t.c, .int .i64 t.e.1, .int .i64 t.e.2.1, .int .i64 t.e.2.2.1, .int .i64 t.e.2.2.2] 80)).drewN nq := ⟨_, rfl⟩
                rw [← hW]
                have hdr : Below (wr.alloc (.cells #[.bool t.neg, .slice t.A t.n t.c, .int .i64 t.e.1, .int .i64 t.e.2.1, .int .i64 t.e.2.2.1, .int .i64 t.e.2.2.2] 80)).heap.size (wr.alloc (.cells #[.bool t.neg, .slice t.A t.n t.c, .int .i64 t.e.1, .int .i64 t.e.2.1, .int .i64 t.e.2.2.1, .int .i64 t.e.2.2.2] 80)) W := by rw [hW]; exact ((Drawn.refl _).drewN nq).below _
                clear hW
                have hN3 := (hN2.later hdr).later ((Below.refl _ _).drew)
                have hRO3 := (hRO.mono fun t z _ hr => hr.below hdr (Nat.le_refl _)).mono fun t z _ hr => hr.below ((Below.refl _ _).drew) (Nat.le_refl _)
                have hRz3 := (hRz.below hdr (Nat.le_refl _)).below ((Below.refl _ _).drew) (Nat.le_refl _)
                have hco3 := (hco2.below hdr (Nat.le_refl _)).below ((Below.refl _ _).drew) (Nat.le_refl _)
                clear e0 e1 e2 e3 e4 e5 d0 d1 d2 d3 d4 d5
                obtain ⟨b0, b1, b2, b3, b4, b5⟩ := box_six t hdr
                have hwW : w2.heap.size ≤ W.heap.size := hN3.below.size
                have hTW := Terms.of_own (hN3.own' HLO.out)
                clear hN hN2 hdr hbxb hbox hco2 hco1 c0 c1 c2 c3 c4 c5 hT3 hTo hRO hRz heq hgd
                obtain ⟨d0, d1, d2, d3, d4, d5⟩ := hTW.six (at_len O s [] o HO.out)
                have HSUM := Lib.hid (show iv s.neg (val (digs z.natAbs)) + iv t.neg (val (digs p.1.natAbs)) = z + p.1 by rw [hRz3.value, hco3.value])
                have hBw : B ≤ W.drew.heap.size := by show B ≤ W.heap.size; omega
                have hfz := hTW.frozen
                have hds := hRz3.2
                have hdt := hco3.2
                go_wp2
                go_region_with (go_at_call 48; (with_reducible refine (iadd_any B s.neg t.neg s.A t.A s.n s.c t.n t.c (digs z.natAbs) (digs p.1.natAbs) _ hBw hds hdt hws hwt).mono ?_); rw [HSUM.out]; rintro e3 w3 ⟨A3, n3, c3, rfl, h3, hb3⟩; have hT3 := hTW.below hb3; obtain ⟨k0, k1, k2, k3, k4, k5⟩ := hT3.six (at_len O s [] o HO.out); have hfz3 := hT3.frozen)
                all_goals
                  have hN4 := hN3.later hb3
                  have hRO4 := hRO3.mono fun t z _ hr => hr.below hb3 (Nat.le_refl _)
                  have hN6 := hN4.sum HO.out HMS.out hRO4 h3 (by omega)
                  clear hN3 hN4 hRO3 hRO4 hRz3 hco3 hds hdt hTW hT3 h3 hb3 k0 k1 k2 k3 k4 k5 d0 d1 d2 d3 d4 d5 b0 b1 b2 b3 b4 b5 hfz hfz3
                  go_wp2
                  go_roundw
                  case rel => exact ⟨j + 1, _, by omega, by go_num, hN6⟩
                  case measure => simp [intOf]; omega
              · have hee' : (s.e == t.e) = false := by rw [beq_eq_false_iff_ne]; exact hee
                have HMS := Lib.hid (show merged (sl.take (j + 1)) = merged (sl.take j) ++ [p] by
                  rw [merged_take sl j p HPk.out]
                  exact merge_other hN2.reps (by rw [← HTE.out]; exact hee))
                clear hee
                go_upto_region 14 with (fail)
                go_quiet (fail)
                obtain ⟨W, hW⟩ : ∃ W, W = (wr.alloc (.cells #[.bool t.neg, .slice t.A t.n t.c, .int .i64 t.e.1, .int .i64 t.e.2.1, .int .i64 t.e.2.2.1, .int .i64 t.e.2.2.2] 80)).drewN nq := ⟨_, rfl⟩
                rw [← hW]
                have hdr : Below (wr.alloc (.cells #[.bool t.neg, .slice t.A t.n t.c, .int .i64 t.e.1, .int .i64 t.e.2.1, .int .i64 t.e.2.2.1, .int .i64 t.e.2.2.2] 80)).heap.size (wr.alloc (.cells #[.bool t.neg, .slice t.A t.n t.c, .int .i64 t.e.1, .int .i64 t.e.2.1, .int .i64 t.e.2.2.1, .int .i64 t.e.2.2.2] 80)) W := by rw [hW]; exact ((Drawn.refl _).drewN nq).below _
                clear hW
                have hN3 := hN2.later hdr
                have hco3 := hco2.below hdr (Nat.le_refl _)
                clear e0 e1 e2 e3 e4 e5 d0 d1 d2 d3 d4 d5
                obtain ⟨b0, b1, b2, b3, b4, b5⟩ := box_six t hdr
                have hwW : w2.heap.size ≤ W.heap.size := hN3.below.size
                have hN5 := hN3.later ((Below.refl _ _).alloc (Nat.le_refl _) (.cells #[.bool t.neg, .slice t.A t.n t.c, .int .i64 t.e.1, .int .i64 t.e.2.1, .int .i64 t.e.2.2.1, .int .i64 t.e.2.2.2] 80))
                clear hN hN2 hdr hbxb hbox hco2 hco1 c0 c1 c2 c3 c4 c5 hT3 hTo
                go_wp2_with (at_builtin; refine wpList_append_lies _ rfl _ _ _ rfl w2.heap.size 80 i0 _ 6 64 Try.underlying26 hi0 hz0 hz1 hz2 rfl (by omega) (.slice (some ⟨g2, 0, none⟩) (o + 1) cap2) (o + 1) (flat (O ++ [s])) rfl (hN5.own' HLO.out) ⟨W.heap.size, 0, none⟩ 1 1 (flat [t]) rfl rfl (World.news_of_block (cs := #[.bool t.neg, .slice t.A t.n t.c, .int .i64 t.e.1, .int .i64 t.e.2.1, .int .i64 t.e.2.2.1, .int .i64 t.e.2.2.2]) (t := 80) (fr := (0, 0)) (heap_alloc_new W _)) (flat_one _) (by omega) (by simp only [maxLen]; omega) (by omega) (by simp; omega) (W.heap.size + 1) (by simp) ?_; intro gg cp w3 hown3 hgrow hat hlt3)
                have hN6 := hN5.push HLO.out HPk.out HTE.out HMS.out hown3 hgrow (hco3.below ((Below.refl _ _).alloc (Nat.le_refl _) _) (Nat.le_refl _)) (by omega)
                clear hN5 hN3 hown3 hgrow hco3 hat
                go_wp2
                go_roundw
                case rel => exact ⟨j + 1, _, by omega, by go_num, hN6⟩
                case measure => simp [intOf]; omega
          · have hjm : j = m := by omega
            subst hjm
            have hmt : sl.take j = sl := List.take_of_length_le (by rw [HSL.out]; exact Nat.le_refl _)
            have hRep := hN.reps
            rw [hmt] at hRep
            have hBw := hB2.trans (hN.below.mono hws2)
            rcases Nat.eq_zero_or_pos Lo.length with hz | hz
            · have hLo : Lo = [] := List.eq_nil_of_length_eq_zero hz
              subst hLo
              have hv0 := hN.nil rfl
              subst hv0
              have hnf : nf al = [] := by
                rw [← HF.out, List.eq_nil_of_length_eq_zero hRep.length.symm]; rfl
              have HNF := Lib.hid hnf
              have HBW := Lib.hid hBw
              clear hN hRep hnf hBw hmt
              go_wp2_with fail
              refine (delete_nil _).mono ?_
              rintro e' w4 ⟨rfl, rfl⟩
              go_wp2
              go_ret
              exact ⟨none, 0, 0, rfl, by rw [HNF.out]; exact PolyC.nil, HBW.out, fun ad h => by cases h⟩
            · obtain ⟨g2, cap2, rfl, hgB2, hgl2⟩ := hN.own.form hz
              have hTo := Terms.of_own hN.own
              have hcp2 := (Row.of_own (B := B) hN.own).cap
              have hcb2 := (Row.of_own (B := B) hN.own).bd
              have hlo : Lo.length ≤ 1099511627776 := by
                have h1 := hRep.length
                have h2 := (merged_facts sl HPW.out HSV.out).2.2.2.1
                have h3 := HSL.out
                omega
              have hzc : ∀ t ∈ Lo, Coef B wr t (zcOf B wr t) := fun t ht => by
                obtain ⟨i, hi⟩ := List.getElem?_of_mem ht
                obtain ⟨p, _, _, hc⟩ := hRep.at_ hi
                exact zcOf_spec hc.coef
              have hBg2 : B ≤ g2 := by omega
              have hD := delete_any B g2 cap2 Lo.length (zcOf B wr) Lo wr hBg2 hTo rfl hcp2 hcb2 hlo hzc
              have HD := Lib.hid hD
              have HRep := Lib.hid hRep
              have HBW := Lib.hid hBw
              have hTy2 := hTo.ty
              have HN := Lib.hid hN.below
              clear hN hRep hBw hmt hD hzc
              go_wp2_with fail
              refine HD.out.mono ?_
              rintro e' w4 ⟨rfl, hT4, hO4⟩
              go_wp2
              go_ret
              refine ⟨_, _, _, rfl, ⟨keep (zcOf B wr) Lo, Row.of_terms hT4 rfl ?_ hcb2, ?_⟩, ?_, fun ad hA => by cases hA; show w.heap.size ≤ g2; omega⟩
              · exact Nat.le_trans (List.length_filter_le _ _) hcp2
              · rw [← HF.out]
                refine ((HRep.out.filter (f := fun t => !(zcOf B wr t == 0)) (g := fun p => !(p.1 == 0)) fun t p _ _ hr => ?_).mono fun t z _ hr => hr.only hO4 hBg2 hTy2 (by decide))
                rw [zcOf_eq hr.coef]
              · exact HBW.out.grown hO4 HBW.out.size (fun k hk => by injection hk with hk; omega)
theorem normalp_any (B : Nat) (A : Option Addr) (n c : Nat) (al : List Tm) (w : World) (hB : B ≤ w.heap.size) (h : PolyW B w A n c al) (hn : n < sortLim) (hl : l1 al < big) :
    Calls Try.prog 14 #[.slice A n c] w (PolyP B (nf al) w) :=
  (normalp_new B A n c al w hB h hn hl).mono fun _ _ hp => by
    obtain ⟨A', n', c', he, h1, h2, _⟩ := hp
    exact ⟨A', n', c', he, h1, h2⟩
end Go.Proofs.Ytnknidfpkmnncaa
