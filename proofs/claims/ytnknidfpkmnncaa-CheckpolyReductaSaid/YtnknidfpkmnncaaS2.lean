/- The library's symMerge over terms: two sorted stretches become one. -/
import Derived.Test.YtnknidfpkmnncaaS1
namespace Go.Proofs.Ytnknidfpkmnncaa
open Go.RowKit

/-- The twelve cells of two terms. -/
abbrev HeldXY (w' : World) (g x y : Nat) (t s : TV) : Prop :=
  w'.cell? ⟨g, x * 6, none⟩ = some (.bool t.neg) ∧ w'.cell? ⟨g, x * 6 + 1, none⟩ = some (.slice t.A t.n t.c) ∧ w'.cell? ⟨g, x * 6 + 2, none⟩ = some (.int .i64 t.e.1) ∧ w'.cell? ⟨g, x * 6 + 3, none⟩ = some (.int .i64 t.e.2.1) ∧ w'.cell? ⟨g, x * 6 + 4, none⟩ = some (.int .i64 t.e.2.2.1) ∧ w'.cell? ⟨g, x * 6 + 5, none⟩ = some (.int .i64 t.e.2.2.2) ∧
  w'.cell? ⟨g, y * 6, none⟩ = some (.bool s.neg) ∧ w'.cell? ⟨g, y * 6 + 1, none⟩ = some (.slice s.A s.n s.c) ∧ w'.cell? ⟨g, y * 6 + 2, none⟩ = some (.int .i64 s.e.1) ∧ w'.cell? ⟨g, y * 6 + 3, none⟩ = some (.int .i64 s.e.2.1) ∧ w'.cell? ⟨g, y * 6 + 4, none⟩ = some (.int .i64 s.e.2.2.1) ∧ w'.cell? ⟨g, y * 6 + 5, none⟩ = some (.int .i64 s.e.2.2.2)
theorem Terms.heldXY {w : World} {g x y : Nat} {L : List TV} {t s : TV} (h : Terms w g L) (ht : L[x]? = some t) (hs : L[y]? = some s) : HeldXY w g x y t s := by
  obtain ⟨c0, c1, c2, c3, c4, c5⟩ := h.six ht
  obtain ⟨d0, d1, d2, d3, d4, d5⟩ := h.six hs
  exact ⟨c0, c1, c2, c3, c4, c5, d0, d1, d2, d3, d4, d5⟩
theorem at_mid {α : Type} (P : List α) (x : α) (Y S : List α) (k a : Nat) (y : α) (hP : P.length = a) (hk : Y[k]? = some y) : (P ++ x :: (Y ++ S))[a + 1 + k]? = some y := by
  subst hP
  rw [List.getElem?_append_right (by omega), show P.length + 1 + k - P.length = k + 1 by omega, List.getElem?_cons_succ, List.getElem?_append_left (List.getElem?_eq_some_iff.1 hk).1, hk]
theorem sorted_at {α : Type} {r : α → α → Prop} {Y : List α} (hs : Y.Pairwise r) {i j : Nat} {s t : α} (hi : Y[i]? = some s) (hj : Y[j]? = some t) (h : i < j) : r s t := by
  have h1 := List.getElem?_eq_some_iff.1 hi
  have h2 := List.getElem?_eq_some_iff.1 hj
  have h3 := (List.pairwise_iff_getElem.1 hs) i j h1.1 h2.1 h
  rw [h1.2, h2.2] at h3
  exact h3
theorem Desc.refl' (t : TV) : Desc t t := by
  unfold Desc
  rw [cmpE_zero.2 rfl]; exact Int.le_refl _
theorem desc_of_neg {x y : TV} (h : cmpE x.e y.e < 0) : Desc y x := by
  unfold Desc
  have := cmpE_neg x.e y.e
  omega
theorem desc_of_nonneg {x y : TV} (h : ¬ cmpE x.e y.e < 0) : Desc x y := by
  unfold Desc
  omega

set_option maxRecDepth 100000 in
set_option maxHeartbeats 2000000 in
theorem merge_first (g cap a m b n : Nat) (P Y S : List TV) (x : TV) (w : World) (h : Terms w g (P ++ x :: (Y ++ S))) (hn : (P ++ x :: (Y ++ S)).length = n) (hP : P.length = a) (hm : a + 1 = m) (hY : m + Y.length = b) (hs : Y.Pairwise Desc) (hcap : n ≤ cap) (hbd : cap ≤ 9223372036854775807) (hnb : n ≤ 1099511627776) :
    Calls Try.prog 84 #[.slice (some ⟨g, 0, none⟩) n cap, .int .i64 a, .int .i64 m, .int .i64 b, .func (.func 46) #[] #[]] w (SortP g P (x :: Y) S w) := by
  have hbn : b ≤ n := by simp at hn; omega
  have hmb : m ≤ b := by omega
  have HN := Lib.hid hn
  have HP := Lib.hid hP
  have HY := Lib.hid hY
  have HS := Lib.hid hs
  have s1 : (m : Int) - (a : Int) = 1 := by omega
  have ham : a + 1 ≤ m := by omega
  have HM := Lib.hid hm
  clear hn hP hY hs hm
  go_enter Try.func84, Try.ntmps84
  go_wp2_with fail
  go_loopw [10, 11] (fun vi vj wr => ∃ i j : Nat, m ≤ i ∧ i ≤ j ∧ j ≤ b ∧ vi = .int .i64 i ∧ vj = .int .i64 j ∧ Terms wr g (P ++ x :: (Y ++ S)) ∧ Hid ((∀ k y, m + k < i → Y[k]? = some y → Desc y x) ∧ (∀ k y, j ≤ m + k → Y[k]? = some y → Desc x y) ∧ Only g w wr)) (fun vi vj _ => ((intOf vj).toNat - (intOf vi).toNat))
  case atStart => 
    refine ⟨m, b, Nat.le_refl _, by omega, Nat.le_refl _, rfl, rfl, h, Lib.hid ⟨fun k y hk => by omega, fun k y hk hy => ?_, Only.refl _ _⟩⟩
    have h1 := (List.getElem?_eq_some_iff.1 hy).1
    have h2 := HY.out
    omega
  case round =>
    obtain ⟨i, j, hmi, hij, hjb, rfl, rfl, hT, HX⟩ := hrel
    clear h
    by_cases hlt : i < j
    · obtain ⟨q, hq1, hq2⟩ : ∃ q, m + q = (i + j) / 2 ∧ m + q < j := ⟨(i + j) / 2 - m, by omega, by omega⟩
      have hqi : i ≤ m + q := by omega
      obtain ⟨y, hy⟩ : ∃ y, Y[q]? = some y := ⟨_, List.getElem?_eq_getElem (by have := HY.out; omega)⟩
      have hy2 : (P ++ x :: (Y ++ S))[m + q]? = some y := by
        rw [← HM.out]; exact at_mid P x Y S q a y HP.out hy
      have hx2 : (P ++ x :: (Y ++ S))[a]? = some x := at_len _ _ _ _ HP.out
      have HXX := Lib.hid hx2
      have HYY := Lib.hid hy2
      have HYQ := Lib.hid hy
      have hS := hT.heldXY hy2 hx2
      have hMd := hT.drew
      have hO := HX.out.2.2.drew
      clear hx2 hy2 hy hT
      have e1 : ((i : Int) + (j : Int)) / 2 = ((m + q : Nat) : Int) := by omega
      obtain ⟨hh, hhq⟩ : ∃ hh, hh = m + q := ⟨_, rfl⟩
      rw [← hhq] at e1 HYY hS hq2 hqi
      have HHQ := Lib.hid hhq
      clear hhq hq1
      have i0 : (0 : Int) ≤ (hh : Int) := by omega
      have i1 : (hh : Int) < (n : Int) := by omega
      have i2 : (0 : Int) ≤ (a : Int) := by omega
      have i3 : (a : Int) < (n : Int) := by omega
      go_wp2_with fail
      go_region_held3 (fun w' => HeldXY w' g hh a y x) (first | exact hS | exact hS1 | go_keep)
        (first
          | (go_at_call 46; ((with_reducible refine (cmp46_any _ _ _ _ _ _ _ _ y.e x.e _).mono ?_); rintro e w1 ⟨rfl, hb1⟩; have hM1 := hMd.below hb1; have hS1 := hM1.heldXY HYY.out HXX.out; have hO1 := hO.below hb1 (Nat.le_refl _))))
      have HO1 := Lib.hid hO1
      have HM1 := Lib.hid hM1
      clear hS hS1 hMd hO hM1 hb1 hO1 e1
      by_cases hcmp : cmpE x.e y.e < 0
      · have HC := Lib.hid (desc_of_neg hcmp)
        go_wp2
        go_roundw
        case rel => exact ⟨hh + 1, j, by omega, by omega, hjb, by go_num, rfl, HM1.out, Lib.hid ⟨fun k y' hk hy' => by
          have h1 := HHQ.out
          rcases Nat.lt_or_ge k q with h2 | h2
          · exact Desc.trans _ _ _ (sorted_at HS.out hy' HYQ.out h2) HC.out
          · obtain rfl : k = q := by omega
            have h3 := HYQ.out
            rw [hy'] at h3
            injection h3 with h3
            rw [h3]; exact HC.out, HX.out.2.1, HO1.out⟩⟩
        case measure => simp [intOf]; omega
      · have HC := Lib.hid (desc_of_nonneg hcmp)
        go_wp2
        go_roundw
        case rel => exact ⟨i, hh, hmi, by omega, by omega, rfl, rfl, HM1.out, Lib.hid ⟨HX.out.1, fun k y' hk hy' => by
          have h1 := HHQ.out
          rcases Nat.lt_or_ge q k with h2 | h2
          · exact Desc.trans _ _ _ HC.out (sorted_at HS.out HYQ.out hy' h2)
          · obtain rfl : k = q := by omega
            have h3 := HYQ.out
            rw [hy'] at h3
            injection h3 with h3
            rw [h3]; exact HC.out, HO1.out⟩⟩
        case measure => simp [intOf]; omega
    · obtain rfl : i = j := by omega
      obtain ⟨q, hq⟩ : ∃ q, q + 1 = i := ⟨i - 1, by omega⟩
      have e1 : (i : Int) - 1 = (q : Int) := by omega
      have haq : a ≤ q := by omega
      have hqb : q < b := by omega
      have HQ := Lib.hid hq
      clear hq
      go_wp2
      go_loopw [13] (fun vk wr => ∃ k : Nat, a ≤ k ∧ k ≤ q ∧ vk = .int .i64 k ∧ Terms wr g (P ++ (Y.take (k - a) ++ x :: (Y.drop (k - a) ++ S))) ∧ Hid (Only g w wr)) (fun vk _ => (q - (intOf vk).toNat))
      case atStart => exact ⟨a, Nat.le_refl _, haq, rfl, by simpa using hT, Lib.hid HX.out.2.2⟩
      case round =>
        clear hT
        obtain ⟨k, hak, hkq, rfl, hT, HO⟩ := hrel
        by_cases hlt2 : k < q
        · obtain ⟨y, hy⟩ : ∃ y, Y[k - a]? = some y := ⟨_, List.getElem?_eq_getElem (by have := HY.out; have := HM.out; omega)⟩
          have hyl := (List.getElem?_eq_some_iff.1 hy).1
          have eU : (P ++ Y.take (k - a)).length = k := by rw [List.length_append, HP.out, List.length_take]; omega
          have ed : Y.drop (k - a) = y :: Y.drop (k + 1 - a) := by
            rw [List.drop_eq_getElem_cons hyl, (List.getElem?_eq_some_iff.1 hy).2, show k - a + 1 = k + 1 - a by omega]
          have et : Y.take (k + 1 - a) = Y.take (k - a) ++ [y] := by
            rw [show k + 1 - a = k - a + 1 by omega, List.take_succ_eq_append_getElem hyl, (List.getElem?_eq_some_iff.1 hy).2]
          have hT2 : Terms wr g ((P ++ Y.take (k - a)) ++ x :: y :: (Y.drop (k + 1 - a) ++ S)) := by
            rw [ed] at hT
            simpa using hT
          obtain ⟨c0, c1, c2, c3, c4, c5⟩ := hT2.six (at_len _ x _ k eU)
          obtain ⟨d0, d1, d2, d3, d4, d5⟩ := hT2.six (at_len1 _ x y _ k eU)
          have hsw := hT2.swap2 (x := k) (y := k + 1) (s := x) (t := y) (by rw [List.length_append, eU]; simp) (by rw [List.length_append, eU]; simp)
          have e3 : (((P ++ Y.take (k - a)) ++ x :: y :: (Y.drop (k + 1 - a) ++ S)).set k y).set (k + 1) x = P ++ (Y.take (k + 1 - a) ++ x :: (Y.drop (k + 1 - a) ++ S)) := by
            rw [set_len _ _ _ _ _ eU, et]
            have e4 : (P ++ Y.take (k - a)) ++ y :: y :: (Y.drop (k + 1 - a) ++ S) = (P ++ Y.take (k - a) ++ [y]) ++ y :: (Y.drop (k + 1 - a) ++ S) := by simp
            rw [e4, set_len _ _ _ _ (k + 1) (by rw [List.length_append, eU]; rfl)]
            simp
          rw [e3] at hsw
          have HSW := Lib.hid hsw
          have HO2 := Lib.hid ((HO.out.set6 (i := k * 6) (.bool y.neg) (.slice y.A y.n y.c) (.int .i64 y.e.1) (.int .i64 y.e.2.1) (.int .i64 y.e.2.2.1) (.int .i64 y.e.2.2.2)).set6 (i := (k + 1) * 6) (.bool x.neg) (.slice x.A x.n x.c) (.int .i64 x.e.1) (.int .i64 x.e.2.1) (.int .i64 x.e.2.2.1) (.int .i64 x.e.2.2.2))
          have f0 := hT2.frozen
          clear hT hT2 hsw hy hyl eU ed et e3
          have p1 : (0 : Int) ≤ (k : Int) := by omega
          have p2 : (k : Int) < (n : Int) := by omega
          have p3 : (0 : Int) ≤ (k : Int) + 1 := by omega
          have p4 : (k : Int) + 1 < (n : Int) := by omega
          have p5 : IntKind.i64.wrap ((k : Int) + 1) = (k : Int) + 1 := IntWalk.i64_in _ (by omega)
          have p6 : ((k : Int) + 1).toNat = k + 1 := by omega
          go_wp2
          go_region
          go_wp2
          go_roundw
          case rel => exact ⟨k + 1, by omega, by omega, by go_num, HSW.out.drew, Lib.hid HO2.out.drew⟩
          case measure => simp [intOf]; omega
        · obtain rfl : k = q := by omega
          have HF := Lib.hid hT
          clear hT
          go_wp2
          go_end0
          refine ⟨rfl, Y.take (k - a) ++ x :: Y.drop (k - a), ?_, ?_, by simpa using HF.out, HO.out⟩
          · refine List.perm_middle.trans ?_
            rw [List.take_append_drop]
          · have h1 := HX.out
            have h2 := HM.out
            have h3 := HQ.out
            refine insert_sorted Desc.trans (by rw [List.take_append_drop]; exact HS.out) (fun y hy => ?_) (fun Z s hZ => ?_)
            · obtain ⟨l, hl⟩ := List.getElem?_of_mem hy
              rw [List.getElem?_drop] at hl
              exact h1.2.1 _ y (by omega) hl
            · have hs9 : s ∈ Y.take (k - a) := by rw [hZ]; simp
              obtain ⟨l, hl⟩ := List.getElem?_of_mem hs9
              rw [List.getElem?_take] at hl
              split at hl
              · exact h1.1 l s (by omega) hl
              · cases hl
end Go.Proofs.Ytnknidfpkmnncaa
