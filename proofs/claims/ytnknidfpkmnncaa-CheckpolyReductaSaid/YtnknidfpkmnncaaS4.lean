/- symMerge, any two sorted stretches. -/
import Derived.Test.YtnknidfpkmnncaaS3
namespace Go.Proofs.Ytnknidfpkmnncaa
open Go.RowKit

theorem merge_parts {X Y M1 M2 : List TV} {x y : Nat} (hX : X.Pairwise Desc) (hY : Y.Pairwise Desc) (hA : ∀ s t, s ∈ X.take x → t ∈ Y.drop y → Desc s t) (hB : ∀ s t, s ∈ X.drop x → t ∈ Y.take y → Desc t s)
    (p1 : M1.Perm (X.take x ++ Y.take y)) (s1 : M1.Pairwise Desc) (p2 : M2.Perm (X.drop x ++ Y.drop y)) (s2 : M2.Pairwise Desc) : (M1 ++ M2).Perm (X ++ Y) ∧ (M1 ++ M2).Pairwise Desc := by
  have ex := List.take_append_drop x X
  have ey := List.take_append_drop y Y
  constructor
  · refine (p1.append p2).trans ?_
    have h1 : (X.take x ++ Y.take y ++ (X.drop x ++ Y.drop y)).Perm (X.take x ++ X.drop x ++ (Y.take y ++ Y.drop y)) := by
      rw [List.append_assoc, List.append_assoc]
      refine List.Perm.append_left _ ?_
      rw [← List.append_assoc, ← List.append_assoc]
      exact List.Perm.append_right _ List.perm_append_comm
    rwa [ex, ey] at h1
  · rw [List.pairwise_append]
    refine ⟨s1, s2, fun s hs t ht => ?_⟩
    have hs := List.mem_append.1 (p1.mem_iff.1 hs)
    have ht := List.mem_append.1 (p2.mem_iff.1 ht)
    rw [← ex] at hX
    rw [← ey] at hY
    have q1 := (List.pairwise_append.1 hX).2.2
    have q2 := (List.pairwise_append.1 hY).2.2
    rcases hs with hs | hs <;> rcases ht with ht | ht
    · exact q1 s hs t ht
    · exact hA s t hs ht
    · exact hB t s ht hs
    · exact q2 s hs t ht

/-- Where the search has come to, and what the two ends said. -/
def MSplit (a m b nn lo hi i j : Nat) (L : List TV) : Prop :=
  (i = lo ∨ ∃ s t, L[i - 1]? = some s ∧ L[nn - i]? = some t ∧ Desc s t) ∧ (j = hi ∨ ∃ s t, L[j]? = some s ∧ L[nn - 1 - j]? = some t ∧ Desc t s)

theorem at_second {α : Type} (P X Y S : List α) (k m : Nat) (hm : P.length + X.length = m) (h1 : m ≤ k) (h2 : k < m + Y.length) : (P ++ (X ++ (Y ++ S)))[k]? = Y[k - m]? := by
  subst hm
  rw [List.getElem?_append_right (by omega), List.getElem?_append_right (by omega), List.getElem?_append_left (by omega)]
  congr 1
  omega
theorem at_one {α : Type} (P X R : List α) (k a : Nat) (hP : P.length = a) (h1 : a ≤ k) (h2 : k < a + X.length) : (P ++ (X ++ R))[k]? = X[k - a]? := by
  subst hP
  rw [List.getElem?_append_right (by omega), List.getElem?_append_left (by omega)]
theorem mem_take_le {α : Type} {X : List α} {s : α} {n : Nat} (h : s ∈ X.take n) : ∃ k, k < n ∧ X[k]? = some s := by
  obtain ⟨k, hk⟩ := List.getElem?_of_mem h
  rw [List.getElem?_take] at hk
  split at hk
  · exact ⟨k, ‹_›, hk⟩
  · cases hk
theorem mem_drop_ge {α : Type} {X : List α} {s : α} {n : Nat} (h : s ∈ X.drop n) : ∃ k, n ≤ k ∧ X[k]? = some s := by
  obtain ⟨k, hk⟩ := List.getElem?_of_mem h
  rw [List.getElem?_drop] at hk
  exact ⟨n + k, by omega, hk⟩
theorem desc_le {X : List TV} (hs : X.Pairwise Desc) {i j : Nat} {s t : TV} (hi : X[i]? = some s) (hj : X[j]? = some t) (h : i ≤ j) : Desc s t := by
  rcases Nat.lt_or_ge i j with h1 | h1
  · exact sorted_at hs hi hj h1
  · obtain rfl : i = j := by omega
    rw [hi] at hj
    injection hj with hj
    rw [hj]; exact Desc.refl' _
theorem lt_of_some {α : Type} {X : List α} {k : Nat} {s : α} (h : X[k]? = some s) : k < X.length := (List.getElem?_eq_some_iff.1 h).1

theorem msplit_done {a m b nn lo hi i : Nat} {P X Y S : List TV} (hP : P.length = a) (hm : a + X.length = m) (hb : m + Y.length = b) (hX : X.Pairwise Desc) (hY : Y.Pairwise Desc)
    (h : MSplit a m b nn lo hi i i (P ++ (X ++ (Y ++ S)))) (hlo : a ≤ lo) (hli : lo ≤ i) (hih : i ≤ hi) (hhm : hi ≤ m) (hn1 : m ≤ nn - hi) (hn2 : nn - lo ≤ b) (hn3 : hi ≤ nn) (hl : lo = a ∨ nn - lo = b) (hh : hi = m ∨ nn - hi = m) :
    (∀ s t, s ∈ X.take (i - a) → t ∈ Y.drop (nn - i - m) → Desc s t) ∧ (∀ s t, s ∈ X.drop (i - a) → t ∈ Y.take (nn - i - m) → Desc t s) := by
  constructor
  · intro s t hs ht
    obtain ⟨k, hk, hs⟩ := mem_take_le hs
    obtain ⟨l, hl1, ht⟩ := mem_drop_ge ht
    have b1 := lt_of_some hs
    have b2 := lt_of_some ht
    rcases h.1 with h1 | ⟨s', t', h1, h2, h3⟩
    · omega
    · rw [at_one P X _ (i - 1) a hP (by omega) (by omega)] at h1
      rw [at_second P X Y S (nn - i) m (by omega) (by omega) (by omega)] at h2
      exact Desc.trans _ _ _ (desc_le hX hs h1 (by omega)) (Desc.trans _ _ _ h3 (desc_le hY h2 ht (by omega)))
  · intro s t hs ht
    obtain ⟨k, hk, hs⟩ := mem_drop_ge hs
    obtain ⟨l, hl1, ht⟩ := mem_take_le ht
    have b1 := lt_of_some hs
    have b2 := lt_of_some ht
    rcases h.2 with h1 | ⟨s', t', h1, h2, h3⟩
    · omega
    · rw [at_one P X _ i a hP (by omega) (by omega)] at h1
      rw [at_second P X Y S (nn - 1 - i) m (by omega) (by omega) (by omega)] at h2
      exact Desc.trans _ _ _ (desc_le hY ht h2 (by omega)) (Desc.trans _ _ _ h3 (desc_le hX h1 hs (by omega)))

/-- The contract of the merging. -/
abbrev MergeC (K g cap n : Nat) : Prop := ∀ (a m b : Nat) (P X Y S : List TV) (w : World), b - a ≤ K → Terms w g (P ++ (X ++ (Y ++ S))) → (P ++ (X ++ (Y ++ S))).length = n → P.length = a → a + X.length = m → m + Y.length = b → 0 < X.length → 0 < Y.length → X.Pairwise Desc → Y.Pairwise Desc →
    Calls Try.prog 84 #[.slice (some ⟨g, 0, none⟩) n cap, .int .i64 a, .int .i64 m, .int .i64 b, .func (.func 46) #[] #[]] w (SortP g P (X ++ Y) S w)

set_option maxRecDepth 100000 in
set_option maxHeartbeats 4000000 in
theorem merge_step (K g cap n : Nat) (ih : MergeC K g cap n) (hcap : n ≤ cap) (hbd : cap ≤ 9223372036854775807) (hnb : n ≤ 1099511627776) (a m b : Nat) (P X Y S : List TV) (w : World) (hK : b - a ≤ K + 1) (h : Terms w g (P ++ (X ++ (Y ++ S)))) (hn : (P ++ (X ++ (Y ++ S))).length = n) (hP : P.length = a) (hX : a + X.length = m) (hY : m + Y.length = b) (hX1 : 1 < X.length) (hY1 : 1 < Y.length) (sX : X.Pairwise Desc) (sY : Y.Pairwise Desc) :
    Calls Try.prog 84 #[.slice (some ⟨g, 0, none⟩) n cap, .int .i64 a, .int .i64 m, .int .i64 b, .func (.func 46) #[] #[]] w (SortP g P (X ++ Y) S w) := by
  have hbn : b ≤ n := by simp at hn; omega
  obtain ⟨mid, hmid⟩ : ∃ mid, mid = (a + b) / 2 := ⟨_, rfl⟩
  obtain ⟨nn, hnn⟩ : ∃ nn, nn = mid + m := ⟨_, rfl⟩
  have g1 : a + 1 < m := by omega
  have g2 : m + 1 < b := by omega
  have g3 : a < mid := by omega
  have g4 : mid < b := by omega
  have g5 : 2 * mid ≤ a + b := by omega
  have g6 : a + b ≤ 2 * mid + 1 := by omega
  have HN := Lib.hid hn
  have HP := Lib.hid hP
  have HX := Lib.hid hX
  have HY := Lib.hid hY
  have SX := Lib.hid sX
  have SY := Lib.hid sY
  have IH := Lib.hid ih
  have HNN := Lib.hid hnn
  have t1 : ((m : Int) - (a : Int) == 1) = false := by rw [beq_eq_false_iff_ne]; omega
  have t2 : ((b : Int) - (m : Int) == 1) = false := by rw [beq_eq_false_iff_ne]; omega
  have e1 : ((a : Int) + (b : Int)) / 2 = (mid : Int) := by omega
  have e2 : (mid : Int) + (m : Int) = (nn : Int) := by omega
  obtain ⟨p, hp⟩ : ∃ p, p + 1 = nn := ⟨nn - 1, by omega⟩
  have e3 : (nn : Int) - 1 = (p : Int) := by omega
  obtain ⟨lo, hi, hlo, hl1, hl2, hl3, hl4, hl5, hl6, hl7, hl8⟩ : ∃ lo hi, (if mid < m then lo = nn - b ∧ hi = mid else lo = a ∧ hi = m) ∧ a ≤ lo ∧ lo ≤ hi ∧ hi ≤ m ∧ m ≤ nn - hi ∧ nn - lo ≤ b ∧ hi ≤ nn ∧ (lo = a ∨ nn - lo = b) ∧ (hi = m ∨ nn - hi = m) := by
    by_cases hm : mid < m
    · exact ⟨nn - b, mid, by rw [if_pos hm]; exact ⟨rfl, rfl⟩, by omega, by omega, by omega, by omega, by omega, by omega, by omega, by omega⟩
    · exact ⟨a, m, by rw [if_neg hm]; exact ⟨rfl, rfl⟩, by omega, by omega, by omega, by omega, by omega, by omega, by omega, by omega⟩
  have HB := Lib.hid hl7
  have HB2 := Lib.hid hl8
  clear hn hP hX hY sX sY ih hmid hnn hl7 hl8 hX1 hY1
  by_cases hm : mid < m
  all_goals
    first | rw [if_pos hm] at hlo | rw [if_neg hm] at hlo
    obtain ⟨q1, q2⟩ := hlo
    have Q1 := Lib.hid q1
    have Q2 := Lib.hid q2
    try have e4 : (nn : Int) - (b : Int) = (lo : Int) := by omega
    clear q1 q2
    go_enter Try.func84, Try.ntmps84
    go_wp2_with fail
    go_loopw [20, 21] (fun vi vj wr => ∃ i j : Nat, lo ≤ i ∧ i ≤ j ∧ j ≤ hi ∧ vi = .int .i64 i ∧ vj = .int .i64 j ∧ Terms wr g (P ++ (X ++ (Y ++ S))) ∧ Hid (MSplit a m b nn lo hi i j (P ++ (X ++ (Y ++ S))) ∧ Only g w wr)) (fun vi vj _ => ((intOf vj).toNat - (intOf vi).toNat))
    case atStart => exact ⟨lo, hi, Nat.le_refl _, by omega, Nat.le_refl _, by first | rfl | rw [Q1.out], by first | rfl | rw [Q2.out], h, Lib.hid ⟨⟨.inl rfl, .inl rfl⟩, Only.refl _ _⟩⟩
    case round =>
      obtain ⟨i, j, hli, hij, hjh, rfl, rfl, hT, HV⟩ := hrel
      clear h
      by_cases hlt : i < j
      · obtain ⟨c, hc⟩ : ∃ c, c = (i + j) / 2 := ⟨_, rfl⟩
        have c1 : i ≤ c := by omega
        have c2 : c < j := by omega
        obtain ⟨d, hd⟩ : ∃ d, d + c = p := ⟨p - c, by omega⟩
        obtain ⟨s, hs⟩ : ∃ s, (P ++ (X ++ (Y ++ S)))[c]? = some s := ⟨_, List.getElem?_eq_getElem (by rw [HN.out]; omega)⟩
        obtain ⟨t, ht⟩ : ∃ t, (P ++ (X ++ (Y ++ S)))[d]? = some t := ⟨_, List.getElem?_eq_getElem (by rw [HN.out]; omega)⟩
        have HSS := Lib.hid hs
        have HTT := Lib.hid ht
        have hS := hT.heldXY ht hs
        have hMd := hT.drew
        have hO := HV.out.2.drew
        have f1 : ((i : Int) + (j : Int)) / 2 = (c : Int) := by omega
        have f2 : (p : Int) - (c : Int) = (d : Int) := by omega
        have i0 : (0 : Int) ≤ (c : Int) := by omega
        have i1 : (c : Int) < (n : Int) := by omega
        have i2 : (0 : Int) ≤ (d : Int) := by omega
        have i3 : (d : Int) < (n : Int) := by omega
        have f3 : IntKind.i64.wrap (d : Int) = (d : Int) := IntWalk.i64_in _ (by omega)
        have HD := Lib.hid (show nn - 1 - c = d ∧ nn - (c + 1) = d by omega)
        clear hs ht hT hc hd
        go_wp2_with fail
        go_region_held3 (fun w' => HeldXY w' g d c t s) (first | exact hS | exact hS1 | go_keep)
          (first
            | (go_at_call 46; ((with_reducible refine (cmp46_any _ _ _ _ _ _ _ _ t.e s.e _).mono ?_); rintro e w1 ⟨rfl, hb1⟩; have hM1 := hMd.below hb1; have hS1 := hM1.heldXY HTT.out HSS.out; have hO1 := hO.below hb1 (Nat.le_refl _))))
        have HO1 := Lib.hid hO1
        have HM1 := Lib.hid hM1
        clear hS hS1 hMd hO hM1 hb1 hO1 f1 f2 f3
        by_cases hcmp : cmpE s.e t.e < 0
        · have HC := Lib.hid (desc_of_neg hcmp)
          have hdc : (!decide (cmpE s.e t.e < 0)) = false := by rw [decide_eq_true hcmp]; rfl
          clear hcmp
          rw [hdc]
          clear hdc
          go_wp2
          go_roundw
          case rel => exact ⟨i, c, hli, by omega, by omega, rfl, rfl, HM1.out, Lib.hid ⟨⟨HV.out.1.1, .inr ⟨s, t, HSS.out, by rw [HD.out.1]; exact HTT.out, HC.out⟩⟩, HO1.out⟩⟩
          case measure => simp [intOf]; omega
        · have HC := Lib.hid (desc_of_nonneg hcmp)
          have hdc : (!decide (cmpE s.e t.e < 0)) = true := by rw [decide_eq_false hcmp]; rfl
          clear hcmp
          rw [hdc]
          clear hdc
          go_wp2
          go_roundw
          case rel => exact ⟨c + 1, j, by omega, by omega, hjh, by go_num, rfl, HM1.out, Lib.hid ⟨⟨.inr ⟨s, t, by rw [Nat.add_sub_cancel]; exact HSS.out, by rw [HD.out.2]; exact HTT.out, HC.out⟩, HV.out.1.2⟩, HO1.out⟩⟩
          case measure => simp [intOf]; omega
      · obtain rfl : i = j := by omega
        obtain ⟨en, hen⟩ : ∃ en, en = nn - i := ⟨_, rfl⟩
        have e6 : (nn : Int) - (i : Int) = (en : Int) := by omega
        have HAB := Lib.hid (msplit_done (S := S) HP.out HX.out HY.out SX.out SY.out HV.out.1 hl1 hli hjh hl3 hl4 hl5 hl6 HB.out HB2.out)
        have hEN := hen
        rw [← hen] at HAB
        have HE := Lib.hid hen
        have k1 : a ≤ i := by omega
        have k2 : i ≤ m := by omega
        have k3 : m ≤ en := by omega
        have k4 : en ≤ b := by omega
        have k5 : i + en = mid + m := by have := HNN.out; omega
        have lA : (X.take (i - a)).length = i - a := by rw [List.length_take]; have := HX.out; omega
        have lB : (X.drop (i - a)).length = m - i := by rw [List.length_drop]; have := HX.out; omega
        have lC : (Y.take (en - m)).length = en - m := by rw [List.length_take]; have := HY.out; omega
        have lD : (Y.drop (en - m)).length = b - en := by rw [List.length_drop]; have := HY.out; omega
        have HLL := Lib.hid (And.intro lA (And.intro lB (And.intro lC lD)))
        have hL : P ++ (X ++ (Y ++ S)) = (P ++ X.take (i - a)) ++ (X.drop (i - a) ++ (Y.take (en - m) ++ (Y.drop (en - m) ++ S))) := by
          have ex := List.take_append_drop (i - a) X
          have ey := List.take_append_drop (en - m) Y
          generalize X.take (i - a) = x1 at *
          generalize X.drop (i - a) = x2 at *
          generalize Y.take (en - m) = y1 at *
          generalize Y.drop (en - m) = y2 at *
          rw [← ex, ← ey]; simp
        have hT1 := hT
        rw [hL] at hT1
        have HT1 := Lib.hid hT1
        have hn1 := HN.out
        rw [hL] at hn1
        have HN1 := Lib.hid hn1
        have HO1 := Lib.hid HV.out.2
        clear hT hT1 hL hn1 lA lB lC lD hen hEN HV
        have hw1 : (i < m ∧ m < en) ∨ ¬ i < m ∨ (i < m ∧ ¬ m < en) := by omega
        rcases hw1 with ⟨r1, r2⟩ | r1 | ⟨r1, r2⟩
        focus
          have HC := Lib.hid (rotate_any g cap i m en n (P ++ X.take (i - a)) (X.drop (i - a)) (Y.take (en - m)) (Y.drop (en - m) ++ S) wr HT1.out HN1.out (by rw [List.length_append, HP.out, HLL.out.1]; omega) (by rw [List.length_append, HP.out, HLL.out.1, HLL.out.2.1]; omega) (by rw [List.length_append, HP.out, HLL.out.1, HLL.out.2.1, HLL.out.2.2.1]; omega) (by rw [HLL.out.2.1]; omega) (by rw [HLL.out.2.2.1]; omega) hcap hbd hnb)
          have HWO := Lib.hid HO1.out
          clear HO1
          go_wp2_with fail
          refine HC.out.mono ?_
          rintro e wc ⟨rfl, h1, h2⟩
          have HO1 := Lib.hid (HWO.out.trans h2)
          have HOc := Lib.hid (HWO.out.trans h2)
          have HTc := Lib.hid (show Terms wc g (P ++ ((X.take (i - a) ++ Y.take (en - m)) ++ ((X.drop (i - a) ++ Y.drop (en - m)) ++ S))) by simpa using h1)
          clear h1 h2 HC
        rotate_left
        focus
          obtain ⟨wc, rfl⟩ : ∃ x, x = wr := ⟨_, rfl⟩
          have HOc := Lib.hid HO1.out
          have HTc := Lib.hid (show Terms wc g (P ++ ((X.take (i - a) ++ Y.take (en - m)) ++ ((X.drop (i - a) ++ Y.drop (en - m)) ++ S))) by
            have e0 : X.drop (i - a) = [] := List.eq_nil_of_length_eq_zero (by rw [HLL.out.2.1]; omega)
            have h1 := HT1.out
            rw [e0] at h1 ⊢
            simpa using h1)
        rotate_left
        focus
          obtain ⟨wc, rfl⟩ : ∃ x, x = wr := ⟨_, rfl⟩
          have HOc := Lib.hid HO1.out
          have HTc := Lib.hid (show Terms wc g (P ++ ((X.take (i - a) ++ Y.take (en - m)) ++ ((X.drop (i - a) ++ Y.drop (en - m)) ++ S))) by
            have e0 : Y.take (en - m) = [] := List.eq_nil_of_length_eq_zero (by rw [HLL.out.2.2.1]; omega)
            have h1 := HT1.out
            rw [e0] at h1 ⊢
            simpa using h1)
        rotate_left
        all_goals
          have HNc := Lib.hid (show (P ++ ((X.take (i - a) ++ Y.take (en - m)) ++ ((X.drop (i - a) ++ Y.drop (en - m)) ++ S))).length = n by
            have h1 := HN1.out
            simp only [List.length_append] at h1 ⊢
            omega)
          clear HT1 HN1 HO1
          have hw2 : (a < i ∧ i < mid) ∨ ¬ a < i ∨ (a < i ∧ ¬ i < mid) := by omega
          rcases hw2 with ⟨r3, r4⟩ | r3 | ⟨r3, r4⟩
          focus
            have HC := Lib.hid (IH.out a i mid P (X.take (i - a)) (Y.take (en - m)) ((X.drop (i - a) ++ Y.drop (en - m)) ++ S) wc (by omega) (by simpa using HTc.out) (by simpa using HNc.out) HP.out (by rw [HLL.out.1]; omega) (by rw [HLL.out.2.2.1]; omega) (by rw [HLL.out.1]; omega) (by rw [HLL.out.2.2.1]; omega) (SX.out.sublist (List.take_sublist _ _)) (SY.out.sublist (List.take_sublist _ _)))
            go_wp2_with fail
            refine HC.out.mono ?_
            rintro e wd ⟨rfl, M1, h1, h2, h3, h4⟩
            have H1 := Lib.hid (And.intro h1 (And.intro h2 (And.intro h3 (HOc.out.trans h4))))
            clear h1 h2 h3 h4 HC
          rotate_left
          focus
            obtain ⟨wd, rfl⟩ : ∃ x, x = wc := ⟨_, rfl⟩
            obtain ⟨M1, h1⟩ : ∃ M1 : List TV, M1.Perm (X.take (i - a) ++ Y.take (en - m)) ∧ M1.Pairwise Desc ∧ Terms wd g (P ++ (M1 ++ ((X.drop (i - a) ++ Y.drop (en - m)) ++ S))) ∧ Only g w wd := by
              have e0 : X.take (i - a) = [] := List.eq_nil_of_length_eq_zero (by rw [HLL.out.1]; omega)
              exact ⟨_, List.Perm.refl _, by rw [e0, List.nil_append]; exact SY.out.sublist (List.take_sublist _ _), HTc.out, HOc.out⟩
            have H1 := Lib.hid h1
            clear h1
          rotate_left
          focus
            obtain ⟨wd, rfl⟩ : ∃ x, x = wc := ⟨_, rfl⟩
            obtain ⟨M1, h1⟩ : ∃ M1 : List TV, M1.Perm (X.take (i - a) ++ Y.take (en - m)) ∧ M1.Pairwise Desc ∧ Terms wd g (P ++ (M1 ++ ((X.drop (i - a) ++ Y.drop (en - m)) ++ S))) ∧ Only g w wd := by
              have e0 : Y.take (en - m) = [] := List.eq_nil_of_length_eq_zero (by rw [HLL.out.2.2.1]; omega)
              exact ⟨_, List.Perm.refl _, by rw [e0, List.append_nil]; exact SX.out.sublist (List.take_sublist _ _), HTc.out, HOc.out⟩
            have H1 := Lib.hid h1
            clear h1
          rotate_left
          all_goals
            have HNd := Lib.hid (show (P ++ (M1 ++ ((X.drop (i - a) ++ Y.drop (en - m)) ++ S))).length = n by
              have h1 := HNc.out
              have h2 := H1.out.1.length_eq
              simp only [List.length_append] at h1 h2 ⊢
              omega)
            have hM1 := H1.out.1.length_eq
            rw [List.length_append, HLL.out.1, HLL.out.2.2.1] at hM1
            have HM1 := Lib.hid hM1
            clear HNc HTc HOc hM1
            have hw3 : (mid < en ∧ en < b) ∨ ¬ mid < en ∨ (mid < en ∧ ¬ en < b) := by omega
            rcases hw3 with ⟨r5, r6⟩ | r5 | ⟨r5, r6⟩
            · have HC := Lib.hid (IH.out mid en b (P ++ M1) (X.drop (i - a)) (Y.drop (en - m)) S wd (by omega) (by simpa using H1.out.2.2.1) (by simpa using HNd.out) (by rw [List.length_append, HP.out, HM1.out]; omega) (by rw [HLL.out.2.1]; omega) (by rw [HLL.out.2.2.2]; omega) (by rw [HLL.out.2.1]; omega) (by rw [HLL.out.2.2.2]; omega) (SX.out.sublist (List.drop_sublist _ _)) (SY.out.sublist (List.drop_sublist _ _)))
              go_wp2_with fail
              refine HC.out.mono ?_
              rintro e we ⟨rfl, M2, h1, h2, h3, h4⟩
              have H2 := Lib.hid (And.intro h1 (And.intro h2 (And.intro h3 h4)))
              clear h1 h2 h3 h4 HC
              go_wp2
              go_end0
              have hf := merge_parts SX.out SY.out HAB.out.1 HAB.out.2 H1.out.1 H1.out.2.1 H2.out.1 H2.out.2.1
              exact ⟨rfl, M1 ++ M2, hf.1, hf.2, by simpa using H2.out.2.2.1, H1.out.2.2.2.trans H2.out.2.2.2⟩
            · have HF := Lib.hid (show (X.drop (i - a) ++ Y.drop (en - m)).Pairwise Desc by
                have e0 : X.drop (i - a) = [] := List.eq_nil_of_length_eq_zero (by rw [HLL.out.2.1]; omega)
                rw [e0, List.nil_append]; exact SY.out.sublist (List.drop_sublist _ _))
              go_wp2
              all_goals
                go_end0
                have hf := merge_parts SX.out SY.out HAB.out.1 HAB.out.2 H1.out.1 H1.out.2.1 (List.Perm.refl _) HF.out
                exact ⟨rfl, _, hf.1, hf.2, by simpa using H1.out.2.2.1, H1.out.2.2.2⟩
            · have HF := Lib.hid (show (X.drop (i - a) ++ Y.drop (en - m)).Pairwise Desc by
                have e0 : Y.drop (en - m) = [] := List.eq_nil_of_length_eq_zero (by rw [HLL.out.2.2.2]; omega)
                rw [e0, List.append_nil]; exact SX.out.sublist (List.drop_sublist _ _))
              go_wp2
              all_goals
                go_end0
                have hf := merge_parts SX.out SY.out HAB.out.1 HAB.out.2 H1.out.1 H1.out.2.1 (List.Perm.refl _) HF.out
                exact ⟨rfl, _, hf.1, hf.2, by simpa using H1.out.2.2.1, H1.out.2.2.2⟩
end Go.Proofs.Ytnknidfpkmnncaa
