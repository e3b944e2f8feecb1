/- The library's swapRange and rotate over terms: two stretches of a row are exchanged. -/
import Derived.Test.YtnknidfpkmnncaaC3
namespace Go.Proofs.Ytnknidfpkmnncaa
open Go.RowKit

/-- What an exchange leaves: block g bears L. -/
def TurnP (g : Nat) (L : List TV) (w : World) (e : Ending) (w' : World) : Prop :=
  e = .returned (.tuple #[]) ∧ Terms w' g L ∧ Only g w w'
theorem set_len {α : Type} (U : List α) (s x : α) (Q : List α) (m : Nat) (h : U.length = m) : (U ++ s :: Q).set m x = U ++ x :: Q := by
  subst h
  rw [List.set_append_right _ _ (by omega)]
  simp
/-- The world behind the exchange of two terms. -/
theorem Terms.swap2 {w : World} {g x y : Nat} {L : List TV} {s t : TV} (h : Terms w g L) (hx : x < L.length) (hy : y < L.length) :
    Terms ((((((((((((w.setCell ⟨g, x * 6, none⟩ (.bool t.neg)).setCell ⟨g, x * 6 + 1, none⟩ (.slice t.A t.n t.c)).setCell ⟨g, x * 6 + 2, none⟩ (.int .i64 t.e.1)).setCell ⟨g, x * 6 + 3, none⟩ (.int .i64 t.e.2.1)).setCell ⟨g, x * 6 + 4, none⟩ (.int .i64 t.e.2.2.1)).setCell ⟨g, x * 6 + 5, none⟩ (.int .i64 t.e.2.2.2)).setCell
      ⟨g, y * 6, none⟩ (.bool s.neg)).setCell ⟨g, y * 6 + 1, none⟩ (.slice s.A s.n s.c)).setCell ⟨g, y * 6 + 2, none⟩ (.int .i64 s.e.1)).setCell ⟨g, y * 6 + 3, none⟩ (.int .i64 s.e.2.1)).setCell ⟨g, y * 6 + 4, none⟩ (.int .i64 s.e.2.2.1)).setCell ⟨g, y * 6 + 5, none⟩ (.int .i64 s.e.2.2.2)) g ((L.set x t).set y s) :=
  (h.set6 (i := x) hx t).set6 (i := y) (by simpa using hy) s
theorem range_step {P U Q V S : List TV} {i a b k : Nat} {s t : TV} (hP : P.length = a) (hb : P.length + U.length + Q.length = b) (hU : U.length = k) (hV : V.length = k) (hi : i < k) (hs : U[i]? = some s) (ht : V[i]? = some t) :
    let L := P ++ (V.take i ++ (U.drop i ++ (Q ++ (U.take i ++ (V.drop i ++ S)))))
    L[a + i]? = some s ∧ L[b + i]? = some t ∧ (L.set (a + i) t).set (b + i) s = P ++ (V.take (i + 1) ++ (U.drop (i + 1) ++ (Q ++ (U.take (i + 1) ++ (V.drop (i + 1) ++ S))))) := by
  intro L
  have hu := List.getElem?_eq_some_iff.1 hs
  have hv := List.getElem?_eq_some_iff.1 ht
  have eu : U.drop i = s :: U.drop (i + 1) := by rw [List.drop_eq_getElem_cons hu.1, hu.2]
  have ev : V.drop i = t :: V.drop (i + 1) := by rw [List.drop_eq_getElem_cons hv.1, hv.2]
  have tu : U.take (i + 1) = U.take i ++ [s] := by rw [List.take_succ_eq_append_getElem hu.1, hu.2]
  have tv : V.take (i + 1) = V.take i ++ [t] := by rw [List.take_succ_eq_append_getElem hv.1, hv.2]
  have lu : (U.take i).length = i := by rw [List.length_take]; omega
  have lv : (V.take i).length = i := by rw [List.length_take]; omega
  have ld : (U.drop (i + 1)).length = k - (i + 1) := by rw [List.length_drop]; omega
  have eL : L = (P ++ V.take i) ++ s :: (U.drop (i + 1) ++ (Q ++ (U.take i ++ t :: (V.drop (i + 1) ++ S)))) := by
    show P ++ (V.take i ++ (U.drop i ++ (Q ++ (U.take i ++ (V.drop i ++ S))))) = _
    rw [eu, ev]; simp
  have eM : L = (P ++ (V.take i ++ (s :: U.drop (i + 1) ++ (Q ++ U.take i)))) ++ t :: (V.drop (i + 1) ++ S) := by
    rw [eL]; simp
  have h1 : (P ++ V.take i).length = a + i := by rw [List.length_append, lv, hP]
  have h2 : ∀ x : TV, (P ++ (V.take i ++ (x :: U.drop (i + 1) ++ (Q ++ U.take i)))).length = b + i := fun x => by
    simp only [List.length_append, List.length_cons, lv, lu, ld]
    omega
  refine ⟨?_, ?_, ?_⟩
  · rw [eL]; exact at_len _ _ _ _ h1
  · rw [eM]; exact at_len _ _ _ _ (h2 s)
  · rw [eL, set_len _ _ _ _ _ h1]
    have eN : (P ++ V.take i) ++ t :: (U.drop (i + 1) ++ (Q ++ (U.take i ++ t :: (V.drop (i + 1) ++ S)))) = (P ++ (V.take i ++ (t :: U.drop (i + 1) ++ (Q ++ U.take i)))) ++ t :: (V.drop (i + 1) ++ S) := by simp
    rw [eN, set_len _ _ _ _ _ (h2 t), tu, tv]
    simp

set_option maxRecDepth 100000 in
set_option maxHeartbeats 2000000 in
theorem swapRange_any (g cap a b k n : Nat) (P U Q V S : List TV) (w : World) (h : Terms w g (P ++ (U ++ (Q ++ (V ++ S))))) (hn : (P ++ (U ++ (Q ++ (V ++ S)))).length = n) (hP : P.length = a) (hb : P.length + U.length + Q.length = b) (hU : U.length = k) (hV : V.length = k) (hcap : n ≤ cap) (hbd : cap ≤ 9223372036854775807) (hnb : n ≤ 1099511627776) :
    Calls Try.prog 94 #[.slice (some ⟨g, 0, none⟩) n cap, .int .i64 a, .int .i64 b, .int .i64 k, .func (.func 46) #[] #[]] w (TurnP g (P ++ (V ++ (Q ++ (U ++ S)))) w) := by
  have hbn : b + k ≤ n := by simp at hn; omega
  have hab : a + k ≤ b := by omega
  have HN := Lib.hid hn
  have HP := Lib.hid hP
  have HB := Lib.hid hb
  have HU := Lib.hid hU
  have HV := Lib.hid hV
  clear hn hP hb hU hV
  go_enter Try.func94, Try.ntmps94
  go_wp2
  go_loopw [10] (fun i wr => ∃ j : Nat, j ≤ k ∧ i = .int .i64 j ∧ Terms wr g (P ++ (V.take j ++ (U.drop j ++ (Q ++ (U.take j ++ (V.drop j ++ S)))))) ∧ Hid (Only g w wr)) (fun i _ => (k - (intOf i).toNat))
  case atStart => exact ⟨0, by omega, rfl, by simpa using h, Lib.hid (Only.refl _ _)⟩
  case round =>
    obtain ⟨j, hj, rfl, hT, HO⟩ := hrel
    by_cases hlt : j < k
    · obtain ⟨s, hs⟩ : ∃ s, U[j]? = some s := ⟨_, List.getElem?_eq_getElem (by rw [HU.out]; exact hlt)⟩
      obtain ⟨t, ht⟩ : ∃ t, V[j]? = some t := ⟨_, List.getElem?_eq_getElem (by rw [HV.out]; exact hlt)⟩
      obtain ⟨e1, e2, e3⟩ := range_step (S := S) HP.out HB.out HU.out HV.out hlt hs ht
      obtain ⟨c0, c1, c2, c3, c4, c5⟩ := hT.six e1
      obtain ⟨d0, d1, d2, d3, d4, d5⟩ := hT.six e2
      have hsw := hT.swap2 (s := s) (t := t) (List.getElem?_eq_some_iff.1 e1).1 (List.getElem?_eq_some_iff.1 e2).1
      rw [e3] at hsw
      have HS := Lib.hid hsw
      have HO2 := Lib.hid ((HO.out.set6 (i := (a + j) * 6) (.bool t.neg) (.slice t.A t.n t.c) (.int .i64 t.e.1) (.int .i64 t.e.2.1) (.int .i64 t.e.2.2.1) (.int .i64 t.e.2.2.2)).set6 (i := (b + j) * 6) (.bool s.neg) (.slice s.A s.n s.c) (.int .i64 s.e.1) (.int .i64 s.e.2.1) (.int .i64 s.e.2.2.1) (.int .i64 s.e.2.2.2))
      have f0 := hT.frozen
      clear e1 e2 e3 hsw hT hs ht h
      have p1 : (0 : Int) ≤ (a : Int) + (j : Int) := by omega
      have p2 : (a : Int) + (j : Int) < (n : Int) := by omega
      have q1 : (0 : Int) ≤ (b : Int) + (j : Int) := by omega
      have q2 : (b : Int) + (j : Int) < (n : Int) := by omega
      have p3 : IntKind.i64.wrap ((a : Int) + (j : Int)) = (a : Int) + (j : Int) := IntWalk.i64_in _ (by omega)
      have q3 : IntKind.i64.wrap ((b : Int) + (j : Int)) = (b : Int) + (j : Int) := IntWalk.i64_in _ (by omega)
      have p4 : ((a : Int) + (j : Int)).toNat = a + j := by omega
      have q4 : ((b : Int) + (j : Int)).toNat = b + j := by omega
      go_wp2
      go_region
      go_wp2
      go_roundw
      case rel => exact ⟨j + 1, by omega, by go_num, HS.out.drew, Lib.hid HO2.out.drew⟩
      case measure => simp [intOf]; omega
    · obtain rfl : j = k := by omega
      have hT2 := hT
      rw [List.take_of_length_le (by rw [HV.out]; exact Nat.le_refl _), List.take_of_length_le (by rw [HU.out]; exact Nat.le_refl _), List.drop_eq_nil_of_le (by rw [HU.out]; exact Nat.le_refl _), List.drop_eq_nil_of_le (by rw [HV.out]; exact Nat.le_refl _)] at hT2
      have HT := Lib.hid hT2
      clear hT hT2 h
      go_wp2
      go_end0
      exact ⟨rfl, by simpa using HT.out, HO.out⟩

theorem turnP_trans {g : Nat} {L : List TV} {w w1 : World} {e : Ending} {w' : World} (h : TurnP g L w1 e w') (k : Only g w w1) : TurnP g L w e w' := ⟨h.1, h.2.1, k.trans h.2.2⟩

set_option maxRecDepth 100000 in
set_option maxHeartbeats 2000000 in
theorem rotate_any (g cap a m b n : Nat) (P U V S : List TV) (w : World) (h : Terms w g (P ++ (U ++ (V ++ S)))) (hn : (P ++ (U ++ (V ++ S))).length = n) (hP : P.length = a) (hU : P.length + U.length = m) (hV : P.length + U.length + V.length = b) (hU0 : 0 < U.length) (hV0 : 0 < V.length) (hcap : n ≤ cap) (hbd : cap ≤ 9223372036854775807) (hnb : n ≤ 1099511627776) :
    Calls Try.prog 88 #[.slice (some ⟨g, 0, none⟩) n cap, .int .i64 a, .int .i64 m, .int .i64 b, .func (.func 46) #[] #[]] w (TurnP g (P ++ (V ++ (U ++ S))) w) := by
  have hbn : b ≤ n := by simp at hn; omega
  have ham : a < m := by omega
  have hmb : m < b := by omega
  have HI := Lib.hid (show U.length = m - a ∧ V.length = b - m by omega)
  have HN := Lib.hid hn
  have HP := Lib.hid hP
  have HU := Lib.hid hU
  clear hn hP hU hV hU0 hV0
  have s1 : (m : Int) - (a : Int) = ((m - a : Nat) : Int) := by omega
  have s2 : (b : Int) - (m : Int) = ((b - m : Nat) : Int) := by omega
  go_enter Try.func88, Try.ntmps88
  go_wp2
  go_loopw [10, 11] (fun vi vj wr => ∃ (i j : Nat) (L U' V' R : List TV), 0 < i ∧ 0 < j ∧ i ≤ m ∧ m + j ≤ b ∧ vi = .int .i64 i ∧ vj = .int .i64 j ∧ Terms wr g (P ++ (L ++ (U' ++ (V' ++ (R ++ S))))) ∧ Hid (U'.length = i ∧ V'.length = j ∧ P.length + L.length + U'.length = m ∧ V ++ U = L ++ (V' ++ (U' ++ R)) ∧ Only g w wr)) (fun vi vj _ => (intOf vi).toNat + (intOf vj).toNat)
  case atStart => exact ⟨m - a, b - m, [], U, V, [], by omega, by omega, by omega, by omega, by simp [s1], by simp [s2], by simpa using h, Lib.hid ⟨HI.out.1, HI.out.2, by simpa using HU.out, by simp, Only.refl _ _⟩⟩
  case round =>
    obtain ⟨i, j, L, U', V', R, hi, hj, him, hjb, rfl, rfl, hT, HX⟩ := hrel
    have hln : (P ++ (L ++ (U' ++ (V' ++ (R ++ S))))).length = n := by
      have h1 := HX.out.2.2.2.1
      have h2 := congrArg List.length h1
      have h3 := HN.out
      simp at h2 h3 ⊢
      omega
    have HL := Lib.hid hln
    clear hln h
    rcases Nat.lt_trichotomy i j with hij | hij | hij
    · obtain ⟨V1, V2, rfl, hl1⟩ : ∃ V1 V2, V' = V1 ++ V2 ∧ V2.length = i := ⟨V'.take (j - i), V'.drop (j - i), (List.take_append_drop _ _).symm, by rw [List.length_drop, HX.out.2.1]; omega⟩
      have hV1 : V1.length = j - i := by have h1 := HX.out.2.1; simp at h1; omega
      have HC := Lib.hid (swapRange_any g cap (m - i) (m + j - i) i n (P ++ L) U' V1 V2 (R ++ S) wr (by simpa using hT) (by simpa using HL.out) (by have h1 := HX.out; simp; omega) (by have h1 := HX.out; simp at h1 ⊢; omega) HX.out.1 hl1 hcap hbd hnb)
      have HV1 := Lib.hid hV1
      have HL1 := Lib.hid hl1
      clear hV1 hl1 hT
      have e1 : (m : Int) - (i : Int) = ((m - i : Nat) : Int) := by omega
      have e2 : (m : Int) + (j : Int) - (i : Int) = ((m + j - i : Nat) : Int) := by omega
      have e3 : (j : Int) - (i : Int) = ((j - i : Nat) : Int) := by omega
      go_wp2_with fail
      refine HC.out.mono ?_
      rintro e w1 ⟨rfl, h1, h2⟩
      have H1 := Lib.hid h1
      have H2 := Lib.hid h2
      clear h1 h2
      go_wp2
      go_roundw
      case rel =>
        refine ⟨i, j - i, L, V2, V1, U' ++ R, hi, by omega, him, by omega, rfl, rfl, by simpa using H1.out, Lib.hid ⟨HL1.out, HV1.out, ?_, ?_, HX.out.2.2.2.2.trans H2.out⟩⟩
        · have h3 := HX.out; have h4 := HL1.out; omega
        · rw [HX.out.2.2.2.1]; simp
      case measure => simp [intOf]; omega
    · subst hij
      have HC := Lib.hid (swapRange_any g cap (m - i) m i n (P ++ L) U' [] V' (R ++ S) wr (by simpa using hT) (by simpa using HL.out) (by have h1 := HX.out; simp; omega) (by have h1 := HX.out; simp at h1 ⊢; omega) HX.out.1 HX.out.2.1 hcap hbd hnb)
      clear hT
      have e1 : (m : Int) - (i : Int) = ((m - i : Nat) : Int) := by omega
      go_wp2_with fail
      refine HC.out.mono ?_
      rintro e w1 ⟨rfl, h1, h2⟩
      have H1 := Lib.hid h1
      have H2 := Lib.hid h2
      clear h1 h2
      go_wp2
      go_end0
      refine ⟨rfl, ?_, HX.out.2.2.2.2.trans H2.out⟩
      have h3 := H1.out
      have h4 := HX.out.2.2.2.1
      have e : P ++ (V ++ (U ++ S)) = P ++ L ++ (V' ++ ([] ++ (U' ++ (R ++ S)))) := by
        rw [← List.append_assoc V U S, h4]; simp
      rw [e]; exact h3
    · obtain ⟨U1, U2, rfl, hl1⟩ : ∃ U1 U2, U' = U1 ++ U2 ∧ U1.length = j := ⟨U'.take j, U'.drop j, (List.take_append_drop _ _).symm, by rw [List.length_take, HX.out.1]; omega⟩
      have hU2 : U2.length = i - j := by have h1 := HX.out.1; simp at h1; omega
      have HC := Lib.hid (swapRange_any g cap (m - i) m j n (P ++ L) U1 U2 V' (R ++ S) wr (by simpa using hT) (by simpa using HL.out) (by have h1 := HX.out; simp at h1 ⊢; omega) (by have h1 := HX.out; simp at h1 ⊢; omega) hl1 HX.out.2.1 hcap hbd hnb)
      have HU2 := Lib.hid hU2
      have HL1 := Lib.hid hl1
      clear hU2 hl1 hT
      have e1 : (m : Int) - (i : Int) = ((m - i : Nat) : Int) := by omega
      have e3 : (i : Int) - (j : Int) = ((i - j : Nat) : Int) := by omega
      go_wp2_with fail
      refine HC.out.mono ?_
      rintro e w1 ⟨rfl, h1, h2⟩
      have H1 := Lib.hid h1
      have H2 := Lib.hid h2
      clear h1 h2
      go_wp2
      go_roundw
      case rel =>
        refine ⟨i - j, j, L ++ V', U2, U1, R, by omega, hj, by omega, hjb, rfl, rfl, by simpa using H1.out, Lib.hid ⟨HU2.out, HL1.out, ?_, ?_, HX.out.2.2.2.2.trans H2.out⟩⟩
        · have h3 := HX.out; have h4 := HU2.out; have h5 := HL1.out; simp at h3 ⊢; omega
        · rw [HX.out.2.2.2.1]; simp
      case measure => simp [intOf]; omega
end Go.Proofs.Ytnknidfpkmnncaa
