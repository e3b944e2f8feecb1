/- symMerge where the second stretch is one term. -/
import Derived.Test.YtnknidfpkmnncaaS2
namespace Go.Proofs.Ytnknidfpkmnncaa
open Go.RowKit

theorem at_first {α : Type} (P X R : List α) (k a : Nat) (x : α) (hP : P.length = a) (hk : X[k]? = some x) : (P ++ (X ++ R))[a + k]? = some x := by
  subst hP
  rw [List.getElem?_append_right (by omega), show P.length + k - P.length = k by omega, List.getElem?_append_left (List.getElem?_eq_some_iff.1 hk).1, hk]

set_option maxRecDepth 100000 in
set_option maxHeartbeats 2000000 in
theorem merge_last (g cap a m b n : Nat) (P X S : List TV) (y : TV) (w : World) (h : Terms w g (P ++ (X ++ y :: S))) (hn : (P ++ (X ++ y :: S)).length = n) (hP : P.length = a) (hX : a + X.length = m) (hm : m + 1 = b) (h1 : X.length ≠ 1) (hs : X.Pairwise Desc) (hcap : n ≤ cap) (hbd : cap ≤ 9223372036854775807) (hnb : n ≤ 1099511627776) :
    Calls Try.prog 84 #[.slice (some ⟨g, 0, none⟩) n cap, .int .i64 a, .int .i64 m, .int .i64 b, .func (.func 46) #[] #[]] w (SortP g P (X ++ [y]) S w) := by
  have hbn : b ≤ n := by simp at hn; omega
  have hmb : m < b := by omega
  have ham : a ≤ m := by omega
  have HN := Lib.hid hn
  have HP := Lib.hid hP
  have HX := Lib.hid hX
  have HS := Lib.hid hs
  have HM := Lib.hid hm
  have t1 : ((m : Int) - (a : Int) == 1) = false := by rw [beq_eq_false_iff_ne]; omega
  have s1 : (b : Int) - (m : Int) = 1 := by omega
  clear hn hP hX hs hm h1
  go_enter Try.func84, Try.ntmps84
  go_wp2_with fail
  go_loopw [14, 15] (fun vi vj wr => ∃ i j : Nat, a ≤ i ∧ i ≤ j ∧ j ≤ m ∧ vi = .int .i64 i ∧ vj = .int .i64 j ∧ Terms wr g (P ++ (X ++ y :: S)) ∧ Hid ((∀ k x, a + k < i → X[k]? = some x → Desc x y) ∧ (∀ k x, j ≤ a + k → X[k]? = some x → Desc y x) ∧ Only g w wr)) (fun vi vj _ => ((intOf vj).toNat - (intOf vi).toNat))
  case atStart =>
    refine ⟨a, m, Nat.le_refl _, by omega, Nat.le_refl _, rfl, rfl, h, Lib.hid ⟨fun k y hk => by omega, fun k x hk hx => ?_, Only.refl _ _⟩⟩
    have h1 := (List.getElem?_eq_some_iff.1 hx).1
    have h2 := HX.out
    omega
  case round =>
    obtain ⟨i, j, hai, hij, hjm, rfl, rfl, hT, HV⟩ := hrel
    clear h
    by_cases hlt : i < j
    · obtain ⟨q, hq1, hq2⟩ : ∃ q, a + q = (i + j) / 2 ∧ a + q < j := ⟨(i + j) / 2 - a, by omega, by omega⟩
      have hqi : i ≤ a + q := by omega
      obtain ⟨x, hx⟩ : ∃ x, X[q]? = some x := ⟨_, List.getElem?_eq_getElem (by have := HX.out; omega)⟩
      have hx2 : (P ++ (X ++ y :: S))[a + q]? = some x := at_first P X _ q a x HP.out hx
      have hy2 : (P ++ (X ++ y :: S))[m]? = some y := by
        rw [← List.append_assoc]
        exact at_len _ _ _ _ (by rw [List.length_append, HP.out]; exact HX.out)
      have HXX := Lib.hid hx2
      have HYY := Lib.hid hy2
      have HXQ := Lib.hid hx
      have hS := hT.heldXY hy2 hx2
      have hMd := hT.drew
      have hO := HV.out.2.2.drew
      clear hx2 hy2 hx hT
      have e1 : ((i : Int) + (j : Int)) / 2 = ((a + q : Nat) : Int) := by omega
      obtain ⟨hh, hhq⟩ : ∃ hh, hh = a + q := ⟨_, rfl⟩
      rw [← hhq] at e1 HXX hS hq2 hqi
      have HHQ := Lib.hid hhq
      clear hhq hq1
      have i0 : (0 : Int) ≤ (hh : Int) := by omega
      have i1 : (hh : Int) < (n : Int) := by omega
      have i2 : (0 : Int) ≤ (m : Int) := by omega
      have i3 : (m : Int) < (n : Int) := by omega
      go_wp2_with fail
      go_region_held3 (fun w' => HeldXY w' g m hh y x) (first | exact hS | exact hS1 | go_keep)
        (first
          | (go_at_call 46; ((with_reducible refine (cmp46_any _ _ _ _ _ _ _ _ y.e x.e _).mono ?_); rintro e w1 ⟨rfl, hb1⟩; have hM1 := hMd.below hb1; have hS1 := hM1.heldXY HYY.out HXX.out; have hO1 := hO.below hb1 (Nat.le_refl _))))
      have HO1 := Lib.hid hO1
      have HM1 := Lib.hid hM1
      clear hS hS1 hMd hO hM1 hb1 hO1 e1
      by_cases hcmp : cmpE x.e y.e < 0
      · have HC := Lib.hid (desc_of_neg hcmp)
        have hdc : (!decide (cmpE x.e y.e < 0)) = false := by rw [decide_eq_true hcmp]; rfl
        clear hcmp
        rw [hdc]
        clear hdc
        go_wp2
        go_roundw
        case rel => exact ⟨i, hh, hai, by omega, by omega, rfl, rfl, HM1.out, Lib.hid ⟨HV.out.1, fun k y' hk hy' => by
          have h1 := HHQ.out
          rcases Nat.lt_or_ge q k with h2 | h2
          · exact Desc.trans _ _ _ HC.out (sorted_at HS.out HXQ.out hy' h2)
          · obtain rfl : k = q := by omega
            have h3 := HXQ.out
            rw [hy'] at h3
            injection h3 with h3
            rw [h3]; exact HC.out, HO1.out⟩⟩
        case measure => simp [intOf]; omega
      · have HC := Lib.hid (desc_of_nonneg hcmp)
        have hdc : (!decide (cmpE x.e y.e < 0)) = true := by rw [decide_eq_false hcmp]; rfl
        clear hcmp
        rw [hdc]
        clear hdc
        go_wp2
        go_roundw
        case rel => exact ⟨hh + 1, j, by omega, by omega, hjm, by go_num, rfl, HM1.out, Lib.hid ⟨fun k y' hk hy' => by
          have h1 := HHQ.out
          rcases Nat.lt_or_ge k q with h2 | h2
          · exact Desc.trans _ _ _ (sorted_at HS.out hy' HXQ.out h2) HC.out
          · obtain rfl : k = q := by omega
            have h3 := HXQ.out
            rw [hy'] at h3
            injection h3 with h3
            rw [h3]; exact HC.out, HV.out.2.1, HO1.out⟩⟩
        case measure => simp [intOf]; omega
    · obtain rfl : i = j := by omega
      go_wp2
      go_loopw [17] (fun vk wr => ∃ k : Nat, i ≤ k ∧ k ≤ m ∧ vk = .int .i64 k ∧ Terms wr g (P ++ (X.take (k - a) ++ y :: (X.drop (k - a) ++ S))) ∧ Hid (Only g w wr)) (fun vk _ => ((intOf vk).toNat))
      case atStart =>
        refine ⟨m, by omega, Nat.le_refl _, rfl, ?_, Lib.hid HV.out.2.2⟩
        have h2 := HX.out
        rw [List.take_of_length_le (by omega), List.drop_eq_nil_of_le (by omega)]
        simpa using hT
      case round =>
        clear hT
        obtain ⟨k, hik, hkm, rfl, hT, HO⟩ := hrel
        by_cases hlt2 : i < k
        · obtain ⟨l, rfl⟩ : ∃ l, k = l + 1 := ⟨k - 1, by omega⟩
          obtain ⟨x, hx⟩ : ∃ x, X[l - a]? = some x := ⟨_, List.getElem?_eq_getElem (by have := HX.out; omega)⟩
          have hxl := (List.getElem?_eq_some_iff.1 hx).1
          have eU : (P ++ X.take (l - a)).length = l := by rw [List.length_append, HP.out, List.length_take]; omega
          have ed : X.drop (l - a) = x :: X.drop (l + 1 - a) := by
            rw [List.drop_eq_getElem_cons hxl, (List.getElem?_eq_some_iff.1 hx).2, show l - a + 1 = l + 1 - a by omega]
          have et : X.take (l + 1 - a) = X.take (l - a) ++ [x] := by
            rw [show l + 1 - a = l - a + 1 by omega, List.take_succ_eq_append_getElem hxl, (List.getElem?_eq_some_iff.1 hx).2]
          have hT2 : Terms wr g ((P ++ X.take (l - a)) ++ x :: y :: (X.drop (l + 1 - a) ++ S)) := by
            rw [et] at hT
            simpa using hT
          obtain ⟨d0, d1, d2, d3, d4, d5⟩ := hT2.six (at_len _ x _ l eU)
          obtain ⟨c0, c1, c2, c3, c4, c5⟩ := hT2.six (at_len1 _ x y _ l eU)
          have hsw := hT2.swap eU
          have e3 : (P ++ X.take (l - a)) ++ y :: x :: (X.drop (l + 1 - a) ++ S) = P ++ (X.take (l - a) ++ y :: (X.drop (l - a) ++ S)) := by
            rw [ed]; simp
          rw [e3] at hsw
          have HSW := Lib.hid hsw
          have HO2 := Lib.hid ((HO.out.set6 (i := (l + 1) * 6) (.bool x.neg) (.slice x.A x.n x.c) (.int .i64 x.e.1) (.int .i64 x.e.2.1) (.int .i64 x.e.2.2.1) (.int .i64 x.e.2.2.2)).set6 (i := l * 6) (.bool y.neg) (.slice y.A y.n y.c) (.int .i64 y.e.1) (.int .i64 y.e.2.1) (.int .i64 y.e.2.2.1) (.int .i64 y.e.2.2.2))
          have f0 := hT2.frozen
          clear hT hT2 hsw hx hxl eU ed et e3
          rw [show ((l + 1 : Nat) : Int) = (l : Int) + 1 from by omega]
          have p1 : (0 : Int) ≤ (l : Int) := by omega
          have p2 : (l : Int) < (n : Int) := by omega
          have p3 : (0 : Int) ≤ (l : Int) + 1 := by omega
          have p4 : (l : Int) + 1 < (n : Int) := by omega
          have p5 : IntKind.i64.wrap ((l : Int) + 1) = (l : Int) + 1 := IntWalk.i64_in _ (by omega)
          have p6 : ((l : Int) + 1).toNat = l + 1 := by omega
          have p7 : IntKind.i64.wrap (l : Int) = (l : Int) := IntWalk.i64_in _ (by omega)
          have p8 : (i : Int) < (l : Int) + 1 := by omega
          go_wp2
          go_region
          go_wp2
          go_roundw
          case rel => exact ⟨l, by omega, by omega, by go_num, HSW.out.drew, Lib.hid HO2.out.drew⟩
          case measure => simp [intOf]
        · obtain rfl : i = k := by omega
          have HF := Lib.hid hT
          clear hT
          go_wp2
          go_end0
          refine ⟨rfl, X.take (i - a) ++ y :: X.drop (i - a), ?_, ?_, by simpa using HF.out, HO.out⟩
          · refine List.perm_middle.trans ?_
            rw [List.take_append_drop]
            exact (List.perm_append_singleton y X).symm
          · have h1 := HV.out
            refine insert_sorted Desc.trans (by rw [List.take_append_drop]; exact HS.out) (fun x hx => ?_) (fun Z s hZ => ?_)
            · obtain ⟨l, hl⟩ := List.getElem?_of_mem hx
              rw [List.getElem?_drop] at hl
              exact h1.2.1 _ x (by omega) hl
            · have hs9 : s ∈ X.take (i - a) := by rw [hZ]; simp
              obtain ⟨l, hl⟩ := List.getElem?_of_mem hs9
              rw [List.getElem?_take] at hl
              split at hl
              · exact h1.1 l s (by omega) hl
              · cases hl
end Go.Proofs.Ytnknidfpkmnncaa
