/- The library's stable sort over any number of terms. -/
import Derived.Test.YtnknidfpkmnncaaS4
namespace Go.Proofs.Ytnknidfpkmnncaa
open Go.RowKit

theorem merge_all (g cap n : Nat) (hcap : n ≤ cap) (hbd : cap ≤ 9223372036854775807) (hnb : n ≤ 1099511627776) : ∀ K, MergeC K g cap n := by
  intro K
  induction K with
  | zero =>
    intro a m b P X Y S w hK h hn hP hX hY hx hy sX sY
    omega
  | succ K ih =>
    intro a m b P X Y S w hK h hn hP hX hY hx hy sX sY
    by_cases h1 : X.length = 1
    · match X, h1 with
      | [x], _ => exact merge_first g cap a m b n P Y S x w h hn hP hX hY sY hcap hbd hnb
    · by_cases h2 : Y.length = 1
      · match Y, h2 with
        | [y], _ => exact merge_last g cap a m b n P X S y w h hn hP hX hY h1 sX hcap hbd hnb
      · exact merge_step K g cap n ih hcap hbd hnb a m b P X Y S w hK h hn hP hX hY (by omega) (by omega) sX sY

/-- Sorted runs of one length. -/
def Runs (k : Nat) (LL : List (List TV)) : Prop := ∀ X ∈ LL, X.length = k ∧ X.Pairwise Desc
theorem Runs.nil (k : Nat) : Runs k [] := fun _ h => by cases h
theorem Runs.snoc {k : Nat} {LL : List (List TV)} {X : List TV} (h : Runs k LL) (hl : X.length = k) (hs : X.Pairwise Desc) : Runs k (LL ++ [X]) := fun Y hY => by
  rcases List.mem_append.1 hY with h1 | h1
  · exact h Y h1
  · rw [List.mem_singleton.1 h1]; exact ⟨hl, hs⟩
theorem Runs.length {k : Nat} {LL : List (List TV)} (h : Runs k LL) : LL.flatten.length = k * LL.length := by
  induction LL with
  | nil => simp
  | cons X LL ih =>
    rw [List.flatten_cons, List.length_append, ih (fun Y hY => h Y (List.mem_cons_of_mem _ hY)), (h X (by simp)).1, List.length_cons, Nat.mul_add]
    omega
theorem Runs.tail {k : Nat} {X : List TV} {LL : List (List TV)} (h : Runs k (X :: LL)) : Runs k LL := fun Y hY => h Y (List.mem_cons_of_mem _ hY)
theorem flatten_snoc (LL : List (List TV)) (X : List TV) : (LL ++ [X]).flatten = LL.flatten ++ X := by simp

set_option maxRecDepth 100000 in
set_option maxHeartbeats 4000000 in
theorem stable_any (g cap n : Nat) (M : List TV) (w : World) (h : Terms w g M) (hn : M.length = n) (hcap : n ≤ cap) (hbd : cap ≤ 9223372036854775807) (hnb : n ≤ 1099511627776) :
    Calls Try.prog 70 #[.slice (some ⟨g, 0, none⟩) n cap, .int .i64 n, .func (.func 46) #[] #[]] w (SortP g [] M [] w) := by
  have HN := Lib.hid hn
  have HH := Lib.hid h
  clear hn h
  go_enter Try.func70, Try.ntmps70
  go_wp2_with fail
  go_loopw [7, 8] (fun va vb wr => ∃ (a : Nat) (LL : List (List TV)) (R : List TV), a ≤ n ∧ va = .int .i64 a ∧ vb = .int .i64 ((a : Int) + 20) ∧ Hid (Terms wr g (LL.flatten ++ R) ∧ a = 20 * LL.length ∧ Runs 20 LL ∧ (LL.flatten ++ R).Perm M ∧ Only g w wr)) (fun va _ _ => (n - (intOf va).toNat))
  case atStart => exact ⟨0, [], M, Nat.zero_le _, rfl, rfl, Lib.hid ⟨HH.out, rfl, Runs.nil _, List.Perm.refl _, Only.refl _ _⟩⟩
  case round =>
    obtain ⟨a, LL, R, han, rfl, rfl, HX⟩ := hrel
    have HLR := Lib.hid (show LL.flatten.length = a ∧ R.length = n - a by
      have h1 := HX.out.2.2.1.length
      have h2 := HX.out.2.2.2.1.length_eq
      have h3 := HN.out
      have h4 := HX.out.2.1
      rw [List.length_append] at h2
      omega)
    have e0 : ((a + 20 : Nat) : Int) = (a : Int) + 20 := by omega
    by_cases hlt : (a : Int) + 20 ≤ (n : Int)
    · have HC := Lib.hid (insertion_any g cap a (a + 20) n LL.flatten (R.take 20) (R.drop 20) wr (by rw [List.take_append_drop]; exact HX.out.1) (by rw [List.take_append_drop, List.length_append, HLR.out.1, HLR.out.2]; omega) HLR.out.1 (by rw [HLR.out.1, List.length_take, HLR.out.2]; omega) hcap hbd hnb)
      rw [e0] at HC
      go_wp2_with fail
      refine HC.out.mono ?_
      rintro e w1 ⟨rfl, M', h1, h2, h3, h4⟩
      have H1 := Lib.hid (And.intro h1 (And.intro h2 (And.intro h3 h4)))
      clear h1 h2 h3 h4
      go_wp2
      go_roundw
      case rel =>
        refine ⟨a + 20, LL ++ [M'], R.drop 20, by omega, by go_num, by rw [e0], Lib.hid ⟨?_, ?_, ?_, ?_, HX.out.2.2.2.2.trans H1.out.2.2.2⟩⟩
        · rw [flatten_snoc, List.append_assoc]; exact H1.out.2.2.1
        · rw [HX.out.2.1, List.length_append]; simp; omega
        · refine HX.out.2.2.1.snoc ?_ H1.out.2.1
          rw [H1.out.1.length_eq, List.length_take, HLR.out.2]; omega
        · rw [flatten_snoc, List.append_assoc]
          refine List.Perm.trans ?_ HX.out.2.2.2.1
          refine List.Perm.append_left _ ?_
          have h5 := H1.out.1.append_right (R.drop 20)
          rwa [List.take_append_drop] at h5
      case measure => simp [intOf]; omega
    · have HC := Lib.hid (insertion_any g cap a n n LL.flatten R [] wr (by rw [List.append_nil]; exact HX.out.1) (by rw [List.append_nil, List.length_append, HLR.out.1, HLR.out.2]; omega) HLR.out.1 (by rw [HLR.out.1, HLR.out.2]; omega) hcap hbd hnb)
      go_wp2_with fail
      refine HC.out.mono ?_
      rintro e w1 ⟨rfl, T, h1, h2, h3, h4⟩
      have H1 := Lib.hid (show Terms w1 g (LL.flatten ++ T) ∧ Runs 20 LL ∧ T.Pairwise Desc ∧ T.length < 20 ∧ (LL.flatten ++ T).Perm M ∧ Only g w w1 from
        ⟨by simpa using h3, HX.out.2.2.1, h2, by rw [h1.length_eq, HLR.out.2]; omega, (List.Perm.append_left _ h1).trans HX.out.2.2.2.1, HX.out.2.2.2.2.trans h4⟩)
      clear h1 h2 h3 h4 HC
      go_wp2_with fail
      go_loopw [6] (fun vk wr => ∃ (k : Nat) (LL : List (List TV)) (T : List TV), 0 < k ∧ k ≤ 2199023255552 ∧ vk = .int .i64 k ∧ Hid (Terms wr g (LL.flatten ++ T) ∧ Runs k LL ∧ T.Pairwise Desc ∧ T.length < k ∧ (LL.flatten ++ T).Perm M ∧ Only g w wr)) (fun vk _ => (n - (intOf vk).toNat))
      case atStart => exact ⟨20, LL, T, by omega, by omega, rfl, H1⟩
      case round =>
        clear HLR HX H1
        obtain ⟨wo, rfl⟩ : ∃ x, x = wr := ⟨_, rfl⟩
        obtain ⟨k, LL2, T2, hk0, hk1, rfl, HY⟩ := hrel
        by_cases hkn : k < n
        · obtain ⟨kk, hkk⟩ : ∃ kk, kk = 2 * k := ⟨_, rfl⟩
          have e1 : 2 * (k : Int) = (kk : Int) := by omega
          have e2 : (k : Int) * 2 = (kk : Int) := by omega
          have hkk1 : kk ≤ 2 * k := by omega
          have hkk2 : 2 * k ≤ kk := by omega
          clear hkk
          go_wp2_with fail
          go_loopw [7, 8] (fun va vb wq => ∃ (a : Nat) (DD EE : List (List TV)), a ≤ n ∧ va = .int .i64 a ∧ vb = .int .i64 ((a : Int) + (kk : Int)) ∧ Hid (Terms wq g (DD.flatten ++ (EE.flatten ++ T2)) ∧ a = kk * DD.length ∧ Runs kk DD ∧ Runs k EE ∧ (DD.flatten ++ (EE.flatten ++ T2)).Perm M ∧ Only g w wq)) (fun va _ _ => (n - (intOf va).toNat))
          case atStart => exact ⟨0, [], LL2, by omega, rfl, by simp, Lib.hid ⟨by simpa using HY.out.1, rfl, Runs.nil _, HY.out.2.1, by simpa using HY.out.2.2.2.2.1, HY.out.2.2.2.2.2⟩⟩
          case round =>
            obtain ⟨wp, rfl⟩ : ∃ x, x = wr := ⟨_, rfl⟩
            obtain ⟨a, DD, EE, han2, rfl, rfl, HZ⟩ := hrel
            have HLE := Lib.hid (show DD.flatten.length = a ∧ a + (k * EE.length + T2.length) = n by
              have h1 := HZ.out.2.2.1.length
              have h2 := HZ.out.2.2.2.2.1.length_eq
              have h3 := HN.out
              have h4 := HZ.out.2.1
              have h5 := HZ.out.2.2.2.1.length
              rw [List.length_append, List.length_append] at h2
              omega)
            have HLN := Lib.hid (show (DD.flatten ++ (EE.flatten ++ T2)).length = n by rw [HZ.out.2.2.2.2.1.length_eq]; exact HN.out)
            by_cases hab : (a : Int) + (kk : Int) ≤ (n : Int)
            · obtain ⟨X, Y, EE2, rfl⟩ : ∃ X Y EE2, EE = X :: Y :: EE2 := by
                match EE, HLE.out.2 with
                | [], h5 => simp at h5; have := HY.out.2.2.2.1; omega
                | [X], h5 => simp at h5; have := HY.out.2.2.2.1; omega
                | X :: Y :: EE2, _ => exact ⟨X, Y, EE2, rfl⟩
              have rX := HZ.out.2.2.2.1 X (by simp)
              have rY := HZ.out.2.2.2.1 Y (by simp)
              have hR := HZ.out.2.2.2.1.tail.tail
              have HR := Lib.hid hR
              have HC := Lib.hid (merge_all g cap n hcap hbd hnb (a + kk - a) a (a + k) (a + kk) DD.flatten X Y (EE2.flatten ++ T2) wp (Nat.le_refl _) (by simpa using HZ.out.1) (by simpa using HLN.out) HLE.out.1 (by rw [rX.1]) (by rw [rY.1]; omega) (by rw [rX.1]; exact hk0) (by rw [rY.1]; exact hk0) rX.2 rY.2)
              have HRX := Lib.hid (And.intro rX.1 rY.1)
              clear rX rY hR
              rw [show ((a + k : Nat) : Int) = (a : Int) + (k : Int) by omega, show ((a + kk : Nat) : Int) = (a : Int) + (kk : Int) by omega] at HC
              go_wp2_with fail
              refine HC.out.mono ?_
              rintro e w1 ⟨rfl, M', h1, h2, h3, h4⟩
              have H1 := Lib.hid (And.intro h1 (And.intro h2 (And.intro h3 h4)))
              clear h1 h2 h3 h4 HC
              go_wp2
              go_roundw
              case rel =>
                refine ⟨a + kk, DD ++ [M'], EE2, by omega, by go_num, by rw [show ((a + kk : Nat) : Int) = (a : Int) + (kk : Int) by omega], Lib.hid ⟨?_, ?_, ?_, HR.out, ?_, HZ.out.2.2.2.2.2.trans H1.out.2.2.2⟩⟩
                · rw [flatten_snoc, List.append_assoc]; exact H1.out.2.2.1
                · rw [List.length_append, Nat.mul_add, ← HZ.out.2.1]; simp
                · refine HZ.out.2.2.1.snoc ?_ H1.out.2.1
                  rw [H1.out.1.length_eq, List.length_append, HRX.out.1, HRX.out.2]; omega
                · rw [flatten_snoc, List.append_assoc]
                  refine List.Perm.trans ?_ HZ.out.2.2.2.2.1
                  refine List.Perm.append_left _ ?_
                  rw [List.flatten_cons, List.flatten_cons, List.append_assoc, List.append_assoc, ← List.append_assoc X Y]
                  exact H1.out.1.append_right _
              case measure => simp [intOf]; omega
            · have HE1 := Lib.hid (show EE.length ≤ 1 by
                have h5 := HLE.out.2
                match EE, h5 with
                | [], _ => simp
                | [X], _ => simp
                | X :: Y :: EE2, h5 =>
                  rw [List.length_cons, List.length_cons, Nat.mul_add, Nat.mul_add] at h5
                  omega)
              by_cases hm : (a : Int) + (k : Int) < (n : Int)
              · obtain ⟨X, rfl⟩ : ∃ X, EE = [X] := by
                  match EE, HLE.out.2, HE1.out with
                  | [], h5, _ => simp at h5; have := HY.out.2.2.2.1; omega
                  | [X], _, _ => exact ⟨X, rfl⟩
                  | X :: Y :: EE2, _, h6 => simp at h6
                have rX := HZ.out.2.2.2.1 X (by simp)
                have hT2 : k + T2.length + a = n := by have h5 := HLE.out.2; simp at h5; omega
                have HC := Lib.hid (merge_all g cap n hcap hbd hnb (n - a) a (a + k) n DD.flatten X T2 [] wp (Nat.le_refl _) (by simpa using HZ.out.1) (by simpa using HLN.out) HLE.out.1 (by rw [rX.1]) (by omega) (by rw [rX.1]; exact hk0) (by omega) rX.2 HY.out.2.2.1)
                have HRX := Lib.hid rX.1
                have HT2 := Lib.hid hT2
                clear rX hT2
                rw [show ((a + k : Nat) : Int) = (a : Int) + (k : Int) by omega] at HC
                go_wp2_with fail
                refine HC.out.mono ?_
                rintro e w1 ⟨rfl, M', h1, h2, h3, h4⟩
                have H1 := Lib.hid (And.intro h1 (And.intro h2 (And.intro h3 h4)))
                clear h1 h2 h3 h4 HC
                go_wp2
                go_roundw
                case rel =>
                  refine ⟨kk, DD, M', by omega, by omega, rfl, Lib.hid ⟨by simpa using H1.out.2.2.1, HZ.out.2.2.1, H1.out.2.1, ?_, ?_, HZ.out.2.2.2.2.2.trans H1.out.2.2.2⟩⟩
                  · rw [H1.out.1.length_eq, List.length_append, HRX.out]; have := HY.out.2.2.2.1; omega
                  · refine List.Perm.trans ?_ HZ.out.2.2.2.2.1
                    refine List.Perm.append_left _ ?_
                    simpa using H1.out.1
                case measure => simp [intOf]; omega
              · have HF := Lib.hid (show (EE.flatten ++ T2).Pairwise Desc ∧ (EE.flatten ++ T2).length < kk by
                  match EE, HLE.out.2, HE1.out, HZ.out.2.2.2.1 with
                  | [], h5, _, _ => exact ⟨by simpa using HY.out.2.2.1, by simp; have := HY.out.2.2.2.1; omega⟩
                  | [X], h5, _, h6 =>
                    have h7 := h6 X (by simp)
                    simp at h5
                    have h8 : T2 = [] := List.eq_nil_of_length_eq_zero (by omega)
                    rw [h8]
                    exact ⟨by simpa using h7.2, by simp; omega⟩
                  | X :: Y :: EE2, _, h6, _ => simp at h6)
                go_wp2
                go_roundw
                case rel => exact ⟨kk, DD, EE.flatten ++ T2, by omega, by omega, rfl, Lib.hid ⟨HZ.out.1, HZ.out.2.2.1, HF.out.1, HF.out.2, HZ.out.2.2.2.2.1, HZ.out.2.2.2.2.2⟩⟩
                case measure => simp [intOf]; omega
        · have HF := Lib.hid (show (LL2.flatten ++ T2).Pairwise Desc by
            have h1 := HY.out.2.1.length
            have h2 := HY.out.2.2.2.2.1.length_eq
            have h3 := HN.out
            rw [List.length_append] at h2
            match LL2, h1, h2, HY.out.2.1 with
            | [], _, _, _ => simpa using HY.out.2.2.1
            | [X], h1, h2, h6 =>
              have h7 := h6 X (by simp)
              rw [h1] at h2
              simp at h2
              have h8 : T2 = [] := List.eq_nil_of_length_eq_zero (by omega)
              rw [h8]
              simpa using h7.2
            | X :: Y :: LL3, h1, h2, _ =>
              rw [h1, List.length_cons, List.length_cons, Nat.mul_add, Nat.mul_add] at h2
              omega)
          go_wp2
          go_end0
          exact ⟨rfl, _, HY.out.2.2.2.2.1, HF.out, by simpa using HY.out.1, HY.out.2.2.2.2.2⟩
end Go.Proofs.Ytnknidfpkmnncaa
