/- The library's DeleteFunc over terms, with the test of a zero coefficient. -/
import Derived.Test.YtnknidfpkmnncaaC5
namespace Go.Proofs.Ytnknidfpkmnncaa
open Go.RowKit

/-- The cells that clear writes over m terms. -/
def zeroTerms (m : Nat) : List Value := (Builtin.zeroCells (Value.agg #[.bool false, .slice none 0 0, .int .i64 0, .int .i64 0, .int .i64 0, .int .i64 0]).cells m).toList
theorem zeroTerms_one (m : Nat) : ∀ v ∈ zeroTerms m, v.oneCell' = true := by
  intro v hv
  unfold zeroTerms Builtin.zeroCells at hv
  simp only [Array.toList_map, List.mem_map] at hv
  obtain ⟨i, _, rfl⟩ := hv
  have h6 : i % (Value.agg #[.bool false, .slice none 0 0, .int .i64 0, .int .i64 0, .int .i64 0, .int .i64 0]).cells.size < 6 := Nat.mod_lt _ (by decide)
  generalize i % (Value.agg #[.bool false, .slice none 0 0, .int .i64 0, .int .i64 0, .int .i64 0, .int .i64 0]).cells.size = r at *
  match r, h6 with
  | 0, _ => rfl
  | 1, _ => rfl
  | 2, _ => rfl
  | 3, _ => rfl
  | 4, _ => rfl
  | 5, _ => rfl
theorem zeroTerms_length (m : Nat) : (zeroTerms m).length = m * 6 := by simp [zeroTerms, Builtin.zeroCells, Value.cells]
theorem zeroTerm (w : World) : (zeroValue 80).run Try.prog w = .ok (.agg #[.bool false, .slice none 0 0, .int .i64 0, .int .i64 0, .int .i64 0, .int .i64 0]) w := by kernel_rfl

theorem run_clear_terms (g i m c n : Nat) (L : List TV) (w : World) (h : Terms w g L) (hn : L.length = n) (him : i + m = n) (hm : 0 < m) (ty : TypeId) :
    (Builtin.clear_ #[26] ty #[.slice (some ⟨g, i * 6, none⟩) m c]).run Try.prog w = .ok (.tuple #[]) (w.setCells g (i * 6) (zeroTerms m)) := by
  have hcell : ∀ j, j < (zeroTerms m).length → (w.cell? ⟨g, i * 6 + 0 + j, none⟩).isSome = true := by
    intro j hj
    rw [zeroTerms_length] at hj
    have hk : i * 6 + 0 + j < (flat L).length := by rw [flat_length]; omega
    rw [h.cell (List.getElem?_eq_getElem hk)]
    rfl
  have hst := run_storeCells_cells (P := Try.prog) g (i * 6) (zeroTerms m) 0 w hcell (fun j _ => h.frozen _) (zeroTerms_one m)
  simp only [Nat.add_zero] at hst
  obtain ⟨k, rfl⟩ : ∃ k, m = k + 1 := ⟨m - 1, by omega⟩
  unfold zeroTerms at hst
  simp [Builtin.clear_, run_underlying Try.underlying26, zeroTerm, hst, zeroTerms]

theorem Terms.setBeyond {w : World} {g : Nat} {L : List TV} (h : Terms w g L) {o : Nat} (ho : L.length * 6 ≤ o) (v : Value) : Terms (w.setCell ⟨g, o, none⟩ v) g L := by
  obtain ⟨cur, hc, hsz, hf⟩ := h.ex_
  refine ⟨cur.setIfInBounds o v, by simp [World.setCell, Array.getElem?_modify, hc], by simpa using hsz, fun k u hk => ?_⟩
  have hkl : k < (flat L).length := (List.getElem?_eq_some_iff.1 hk).1
  rw [flat_length] at hkl
  rw [Array.getElem?_setIfInBounds_ne (by omega)]
  exact hf k u hk
theorem Terms.setCells {g : Nat} {L : List TV} : ∀ (vs : List Value) (o : Nat) (w : World), Terms w g L → L.length * 6 ≤ o → Terms (w.setCells g o vs) g L
  | [], _, _, h, _ => h
  | v :: r, o, w, h, ho => Terms.setCells r (o + 1) (w.setCell ⟨g, o, none⟩ v) (h.setBeyond ho v) (by omega)
theorem Only.setCells {g : Nat} {a : World} : ∀ (vs : List Value) (o : Nat) (w : World), Only g a w → Only g a (w.setCells g o vs)
  | [], _, _, h => h
  | v :: r, o, w, h => Only.setCells r (o + 1) (w.setCell ⟨g, o, none⟩ v) (h.setCell rfl v)
theorem Terms.prefix_ {w : World} {g : Nat} {L M : List TV} (h : Terms w g (L ++ M)) : Terms w g L := by
  obtain ⟨cur, hc, hsz, hf⟩ := h.ex_
  refine ⟨cur, hc, by simp at hsz; omega, fun k u hk => hf k u ?_⟩
  rw [flat_append, List.getElem?_append_left (List.getElem?_eq_some_iff.1 hk).1]
  exact hk

theorem Terms.box (w : World) (v : TV) : Terms (w.alloc (.cells #[.bool v.neg, .slice v.A v.n v.c, .int .i64 v.e.1, .int .i64 v.e.2.1, .int .i64 v.e.2.2.1, .int .i64 v.e.2.2.2] 80)) w.heap.size [v] :=
  ⟨#[.bool v.neg, .slice v.A v.n v.c, .int .i64 v.e.1, .int .i64 v.e.2.1, .int .i64 v.e.2.2.1, .int .i64 v.e.2.2.2], heap_alloc_new w _, by simp, fun k u hk => by simpa [flat, TV.cells] using hk⟩
theorem box_six {w w2 : World} (v : TV) (hb : Below (w.alloc (.cells #[.bool v.neg, .slice v.A v.n v.c, .int .i64 v.e.1, .int .i64 v.e.2.1, .int .i64 v.e.2.2.1, .int .i64 v.e.2.2.2] 80)).heap.size (w.alloc (.cells #[.bool v.neg, .slice v.A v.n v.c, .int .i64 v.e.1, .int .i64 v.e.2.1, .int .i64 v.e.2.2.1, .int .i64 v.e.2.2.2] 80)) w2) :
    w2.cell? ⟨w.heap.size, 0, none⟩ = some (.bool v.neg) ∧ w2.cell? ⟨w.heap.size, 1, none⟩ = some (.slice v.A v.n v.c) ∧ w2.cell? ⟨w.heap.size, 2, none⟩ = some (.int .i64 v.e.1) ∧
    w2.cell? ⟨w.heap.size, 3, none⟩ = some (.int .i64 v.e.2.1) ∧ w2.cell? ⟨w.heap.size, 4, none⟩ = some (.int .i64 v.e.2.2.1) ∧ w2.cell? ⟨w.heap.size, 5, none⟩ = some (.int .i64 v.e.2.2.2) := by
  have h := ((Terms.box w v).below hb).six (i := 0) (t := v) rfl
  simpa using h

/-- What is left: the terms whose coefficient is not 0. -/
def keep (zc : TV → Int) (L : List TV) : List TV := L.filter fun t => !(zc t == 0)
def DelP (g cap : Nat) (zc : TV → Int) (L : List TV) (w : World) (e : Ending) (w' : World) : Prop :=
  e = .returned (.slice (some ⟨g, 0, none⟩) (keep zc L).length cap) ∧ Terms w' g (keep zc L) ∧ Only g w w'

set_option maxRecDepth 100000 in
set_option maxHeartbeats 2000000 in
theorem delete_any (B g cap n : Nat) (zc : TV → Int) (L : List TV) (w : World) (hB : B ≤ g) (h : Terms w g L) (hn : L.length = n) (hcap : n ≤ cap) (hbd : cap ≤ 9223372036854775807) (hnb : n ≤ 1099511627776) (hc : ∀ t ∈ L, Coef B w t (zc t)) :
    Calls Try.prog 49 #[.slice (some ⟨g, 0, none⟩) n cap, .func (.func 50) #[] #[]] w (DelP g cap zc L w) := by
  have HI := Lib.hid (index_any B g cap n zc L w h hn hcap hbd hnb hc)
  have HC := Lib.hid hc
  have HN := Lib.hid hn
  clear hc hn
  go_enter Try.func49, Try.ntmps49
  go_wp2_with fail
  refine HI.out.mono ?_
  rintro e w1 ⟨⟨hall, rfl⟩ | ⟨X, t, Y, rfl, hX, ht, rfl⟩, hb1⟩
  · have hk : keep zc L = L := List.filter_eq_self.2 (fun s hs => by simp [hall s hs])
    have HK := Lib.hid hk
    have HT := Lib.hid (h.below hb1)
    have HO := Lib.hid ((Only.refl g w).below hb1 (Nat.le_refl _))
    clear hk hall h hb1
    go_wp2
    go_ret
    refine ⟨?_, by rw [HK.out]; exact HT.out, HO.out⟩
    rw [HK.out, HN.out]; rfl
  · have HX := Lib.hid hX
    have HT := Lib.hid ht
    have hlen : X.length + 1 + Y.length = n := by have := HN.out; simp at this; omega
    have h1 := h.below hb1
    have hO1 := (Only.refl g w).below hb1 (Nat.le_refl _)
    have hTy := h.ty
    clear hX ht h hb1
    generalize hp : X.length = p at *
    have HP := Lib.hid hp
    clear hp
    have hm1 : ((p : Int) == -1) = false := by rw [beq_eq_false_iff_ne]; omega
    go_wp2
    go_loopw [5, 6] (fun i j wr => ∃ (Y1 Y2 F R : List TV) (q r : Nat), q < r ∧ r ≤ n ∧ i = .int .i64 (q : Int) ∧ j = .int .i64 (r : Int) ∧ Terms wr g ((X ++ F) ++ (R ++ Y2)) ∧ Only g w wr ∧
      Hid (Y = Y1 ++ Y2 ∧ F = keep zc Y1 ∧ p + 1 + Y1.length = r ∧ (X ++ F).length = q ∧ R.length = r - q)) (fun _ j _ => n - (intOf j).toNat)
    case atStart => exact ⟨[], Y, [], [t], p, p + 1, by omega, by omega, rfl, by go_num, by simpa using h1, hO1, Lib.hid ⟨rfl, rfl, rfl, by simpa using HP.out, by simp⟩⟩
    case round =>
      clear h1 hO1
      obtain ⟨Y1, Y2, F, R, q, r, hqr, hrn, rfl, rfl, hT, hO, HV⟩ := hrel
      by_cases hlt : r < n
      · obtain ⟨v, Y2', rfl⟩ : ∃ v Y2', Y2 = v :: Y2' := by
          match Y2 with
          | v :: Y2' => exact ⟨v, Y2', rfl⟩
          | [] => have h1 := HV.out.1; have h2 := HV.out.2.2.1; rw [h1] at hlen; simp at hlen; omega
        have hat : ((X ++ F) ++ (R ++ v :: Y2'))[r]? = some v := by
          have e : (X ++ F) ++ (R ++ v :: Y2') = ((X ++ F) ++ R) ++ v :: Y2' := by simp
          rw [e]
          exact at_len _ v Y2' _ (by have h2 := HV.out.2.2.2.1; have h3 := HV.out.2.2.2.2; rw [List.length_append, h2, h3]; omega)
        obtain ⟨c0, c1, c2, c3, c4, c5⟩ := hT.six hat
        have hvL : v ∈ X ++ t :: Y := by rw [HV.out.1]; simp
        have hcf := (HC.out v hvL).only hO hB hTy (by decide)
        have hg := hT.lt
        have hbox : Below wr.heap.size wr (wr.alloc (.cells #[.bool v.neg, .slice v.A v.n v.c, .int .i64 v.e.1, .int .i64 v.e.2.1, .int .i64 v.e.2.2.1, .int .i64 v.e.2.2.2] 80)) := (Below.refl _ _).alloc (Nat.le_refl _) _
        have hcf2 := hcf.below hbox (Nat.le_refl _)
        have hT2 := hT.below hbox
        have hO2 := hO.below hbox (Nat.le_refl _)
        have i0 : (0 : Int) ≤ (r : Int) := by omega
        have i1 : (r : Int) < (n : Int) := by omega
        clear hat hvL hcf hbox
        by_cases hz : zc v = 0
        · have hz' : (zc v == 0) = true := by rw [hz]; rfl
          have HV2 := Lib.hid (show Y = (Y1 ++ [v]) ++ Y2' ∧ F = keep zc (Y1 ++ [v]) ∧ p + 1 + (Y1 ++ [v]).length = r + 1 ∧ (X ++ F).length = q ∧ (R ++ [v]).length = r + 1 - q from
            ⟨by rw [HV.out.1]; simp, by rw [HV.out.2.1]; simp [keep, hz], by have := HV.out.2.2.1; simp; omega, HV.out.2.2.2.1, by simp [HV.out.2.2.2.2]; omega⟩)
          clear hz
          go_wp2_with fail
          refine (zero_test B v _ _ hcf2).mono ?_
          rintro e w2 ⟨rfl, hb2⟩
          have HT3 := Lib.hid (hT2.below hb2)
          have HO3 := Lib.hid (hO2.below hb2 (Nat.le_refl _))
          clear hcf2 c0 c1 c2 c3 c4 c5 hT hO hT2 hO2 hb2
          go_wp2
          go_roundw
          case rel =>
            refine ⟨Y1 ++ [v], Y2', F, R ++ [v], q, r + 1, by omega, by omega, rfl, by go_num, ?_, HO3.out, HV2⟩
            have e : (X ++ F) ++ (R ++ v :: Y2') = (X ++ F) ++ ((R ++ [v]) ++ Y2') := by simp
            rw [← e]; exact HT3.out
          case measure => simp [intOf]; omega
        · have hz' : (zc v == 0) = false := by rw [beq_eq_false_iff_ne]; exact hz
          obtain ⟨r0, R', rfl⟩ : ∃ r0 R', R = r0 :: R' := by
            match R with
            | r0 :: R' => exact ⟨r0, R', rfl⟩
            | [] => have h1 := HV.out.2.2.2.2; simp at h1; omega
          have HV2 := Lib.hid (show Y = (Y1 ++ [v]) ++ Y2' ∧ F ++ [v] = keep zc (Y1 ++ [v]) ∧ p + 1 + (Y1 ++ [v]).length = r + 1 ∧ (X ++ (F ++ [v])).length = q + 1 ∧ (R' ++ [v]).length = r + 1 - (q + 1) from
            ⟨by rw [HV.out.1]; simp, by rw [HV.out.2.1]; simp [keep, hz], by have := HV.out.2.2.1; simp; omega, by have := HV.out.2.2.2.1; simp at this ⊢; omega, by have := HV.out.2.2.2.2; simp at this ⊢; omega⟩)
          have HPL := Lib.hid HV.out.2.2.2.1
          have i2 : (0 : Int) ≤ (q : Int) := by omega
          have i3 : (q : Int) < (n : Int) := by omega
          clear hz
          go_wp2_with fail
          refine (zero_test B v _ _ hcf2).mono ?_
          rintro e w2 ⟨rfl, hb2⟩
          obtain ⟨e0, e1, e2, e3, e4, e5⟩ := box_six v hb2
          have hT3 := hT2.below hb2
          have hO3 := hO2.below hb2 (Nat.le_refl _)
          have hat2 : ((X ++ F) ++ ((r0 :: R') ++ v :: Y2'))[q]? = some r0 := at_len _ r0 (R' ++ v :: Y2') _ HPL.out
          obtain ⟨d0, d1, d2, d3, d4, d5⟩ := hT3.six hat2
          have hfz := hT3.frozen
          have HS := Lib.hid (hT3.set6 (i := q) (by have := HPL.out; simp at this ⊢; omega) v)
          have HO3 := Lib.hid (hO3.set6 (i := q * 6) (.bool v.neg) (.slice v.A v.n v.c) (.int .i64 v.e.1) (.int .i64 v.e.2.1) (.int .i64 v.e.2.2.1) (.int .i64 v.e.2.2.2))
          clear hcf2 c0 c1 c2 c3 c4 c5 hT hO hT2 hO2 hat2 hT3 hO3
          go_wp2
          go_roundw
          case rel =>
            refine ⟨Y1 ++ [v], Y2', F ++ [v], R' ++ [v], q + 1, r + 1, by omega, by omega, by go_num, by go_num, ?_, HO3.out, HV2⟩
            have e : ((X ++ F) ++ ((r0 :: R') ++ v :: Y2')).set q v = (X ++ (F ++ [v])) ++ ((R' ++ [v]) ++ Y2') := by
              rw [← HPL.out, List.set_append_right _ _ (Nat.le_refl _)]
              simp
            rw [← e]; exact HS.out
          case measure => simp [intOf]; omega
      · have hrn' : r = n := by omega
        subst hrn'
        have hY2 : Y2 = [] := by
          have h1 := HV.out.1; have h2 := HV.out.2.2.1
          rw [h1] at hlen
          simp at hlen
          exact List.eq_nil_of_length_eq_zero (by omega)
        subst hY2
        have hfin : keep zc (X ++ t :: Y) = X ++ F := by
          have h1 := HV.out.1
          rw [List.append_nil] at h1
          rw [HV.out.2.1, ← h1]
          have h2 : X.filter (fun t => !(zc t == 0)) = X := List.filter_eq_self.2 (fun s hs => by simp [HX.out s hs])
          simp [keep, List.filter_append, HT.out, h2]
        have hpl : (X ++ F).length = q := HV.out.2.2.2.1
        have hrl : ((X ++ F) ++ (R ++ [])).length = r := by
          have := HV.out.2.2.2.2
          rw [List.length_append, hpl, List.append_nil, this]; omega
        have hcl := fun (c : Nat) (ty : TypeId) => run_clear_terms g q (r - q) c r _ wr hT hrl (by omega) (by omega) ty
        have HF := Lib.hid hfin
        have HPL := Lib.hid hpl
        have HS := Lib.hid ((hT.prefix_).setCells (zeroTerms (r - q)) (q * 6) wr (by rw [hpl]; exact Nat.le_refl _))
        have HO := Lib.hid (hO.setCells (zeroTerms (r - q)) (q * 6) wr)
        have i0 : (0 : Int) ≤ (q : Int) := by omega
        have i1 : (q : Int) ≤ (r : Int) := by omega
        have i2 : q < cap := by omega
        clear hfin hpl hrl hT hO
        go_wp2
        go_ret
        exact ⟨by rw [HF.out, HPL.out]; rfl, by rw [HF.out]; exact HS.out, HO.out⟩

theorem index_nil (w : World) :
    Calls Try.prog 73 #[.slice none 0 0, .func (.func 50) #[] #[]] w fun e w' => e = .returned (.int .i64 (-1)) ∧ w = w' := by
  go_enter Try.func73, Try.ntmps73
  go_wp2
  go_loop [8] (fun i => i = .int .i64 0) (fun _ => 0)
  case atStart => rfl
  case round =>
    obtain rfl := hrel
    go_wp2
    go_ret
    exact ⟨rfl, rfl⟩
theorem delete_nil (w : World) :
    Calls Try.prog 49 #[.slice none 0 0, .func (.func 50) #[] #[]] w fun e w' => e = .returned (.slice none 0 0) ∧ w = w' := by
  go_enter Try.func49, Try.ntmps49
  go_wp2_with fail
  refine (index_nil _).mono ?_
  rintro e w1 ⟨rfl, rfl⟩
  go_wp2
  go_ret
  exact ⟨rfl, rfl⟩
end Go.Proofs.Ytnknidfpkmnncaa
