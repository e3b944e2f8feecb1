/- The library's IndexFunc and DeleteFunc over terms, with the test of a zero coefficient. -/
import Derived.Test.YtnknidfpkmnncaaC4
import Derived.Laws.IdiomCopy
namespace Go.Proofs.Ytnknidfpkmnncaa
open Go.RowKit

/-- The coefficient of a term reads as the integer z (not in canonical form, perhaps). -/
def Coef (B : Nat) (w : World) (t : TV) (z : Int) : Prop := ∃ xs, Dig B w t.A t.n t.c xs ∧ iv t.neg (val xs) = z
theorem Coef.below {B : Nat} {w w' : World} {t : TV} {z : Int} (h : Coef B w t z) {B' : Nat} (hb : Below B' w w') (hB : w.heap.size ≤ B') : Coef B w' t z := by
  obtain ⟨xs, hd, hz⟩ := h
  exact ⟨xs, hd.below hb hB, hz⟩
theorem Terms.ty {w : World} {g : Nat} {L : List TV} (h : Terms w g L) : Ty w g 80 := by
  obtain ⟨cur, hc, _⟩ := h.ex_
  exact ⟨cur, _, hc⟩
theorem Dig.only {B : Nat} {w w' : World} {A : Option Addr} {n c : Nat} {xs : List Nat} (h : Dig B w A n c xs) {g : Nat} {T' : TypeId} (hO : Only g w w') (hB : B ≤ g) (ht : Ty w g T') (hne : 109 ≠ T') : Dig B w' A n c xs := by
  obtain ⟨cur, fr, ht⟩ := ht
  exact h.other hO hB ht hne
theorem Coef.only {B : Nat} {w w' : World} {t : TV} {z : Int} (h : Coef B w t z) {g : Nat} {T' : TypeId} (hO : Only g w w') (hB : B ≤ g) (ht : Ty w g T') (hne : 109 ≠ T') : Coef B w' t z := by
  obtain ⟨xs, hd, hz⟩ := h
  exact ⟨xs, hd.only hO hB ht hne, hz⟩

theorem zero_test (B : Nat) (t : TV) (z : Int) (w : World) (h : Coef B w t z) :
    Calls Try.prog 50 #[.agg #[.bool t.neg, .slice t.A t.n t.c, .int .i64 t.e.1, .int .i64 t.e.2.1, .int .i64 t.e.2.2.1, .int .i64 t.e.2.2.2]] w (ValP (.bool (z == 0)) w) := by
  obtain ⟨xs, hd, hz⟩ := h
  have := zero50_any B t.neg t.A t.n t.c xs t.e w hd
  rw [hz] at this
  exact this

/-- The first place at which the test strikes, or -1. -/
def IdxP (g : Nat) (zc : TV → Int) (L : List TV) (w : World) (e : Ending) (w' : World) : Prop :=
  ((∀ t ∈ L, zc t ≠ 0) ∧ e = .returned (.int .i64 (-1)) ∨ ∃ X t Y, L = X ++ t :: Y ∧ (∀ s ∈ X, zc s ≠ 0) ∧ zc t = 0 ∧ e = .returned (.int .i64 (X.length : Nat))) ∧ Below w.heap.size w w'

set_option maxRecDepth 100000 in
set_option maxHeartbeats 1000000 in
theorem index_any (B g cap n : Nat) (zc : TV → Int) (L : List TV) (w : World) (h : Terms w g L) (hn : L.length = n) (hcap : n ≤ cap) (hbd : cap ≤ 9223372036854775807) (hnb : n ≤ 1099511627776) (hc : ∀ t ∈ L, Coef B w t (zc t)) :
    Calls Try.prog 73 #[.slice (some ⟨g, 0, none⟩) n cap, .func (.func 50) #[] #[]] w (IdxP g zc L w) := by
  have HN := Lib.hid hn
  have HC := Lib.hid hc
  clear hn hc
  go_enter Try.func73, Try.ntmps73
  go_wp2
  go_loopw [8] (fun i wr => ∃ k : Nat, k ≤ n ∧ i = .int .i64 k ∧ Below w.heap.size w wr ∧ Hid (∀ s ∈ L.take k, zc s ≠ 0)) (fun i _ => n - (intOf i).toNat)
  case atStart => exact ⟨0, Nat.zero_le _, rfl, Below.refl _ _, Lib.hid (by simp)⟩
  case round =>
    obtain ⟨k, hk, rfl, hb, HV⟩ := hrel
    by_cases hlt : k < n
    · have hkL : k < L.length := by rw [HN.out]; exact hlt
      obtain ⟨t, ht⟩ : ∃ t, L[k]? = some t := ⟨_, List.getElem?_eq_getElem hkL⟩
      have hT := h.below hb
      obtain ⟨c0, c1, c2, c3, c4, c5⟩ := hT.six ht
      have hcf := (HC.out t (List.mem_of_getElem? ht)).below hb (Nat.le_refl _)
      have htk : L = L.take k ++ t :: L.drop (k + 1) := by
        have h1 := List.getElem?_eq_some_iff.1 ht
        rw [← h1.2, ← List.drop_eq_getElem_cons h1.1, List.take_append_drop]
      have HTK := Lib.hid htk
      have i0 : (0 : Int) ≤ (k : Int) := by omega
      have i1 : (k : Int) < (n : Int) := by omega
      clear ht htk hkL
      by_cases hz : zc t = 0
      · have hz' : (zc t == 0) = true := by rw [hz]; rfl
        have HZ := Lib.hid hz
        clear hz
        go_wp2_with fail
        refine (zero_test B t _ _ hcf).mono ?_
        rintro e w1 ⟨rfl, hb1⟩
        clear hT hcf c0 c1 c2 c3 c4 c5
        go_wp2
        go_ret
        refine ⟨.inr ⟨L.take k, t, L.drop (k + 1), HTK.out, HV.out, HZ.out, ?_⟩, hb.trans (hb1.mono hb.size)⟩
        rw [List.length_take, HN.out, Nat.min_eq_left hk]
        rfl
      · have hz' : (zc t == 0) = false := by rw [beq_eq_false_iff_ne]; exact hz
        have HV2 := Lib.hid (show ∀ s ∈ L.take (k + 1), zc s ≠ 0 from fun s hs => by
          rw [HTK.out] at hs
          have hl : (L.take k).length = k := by rw [List.length_take, HN.out]; omega
          rw [List.take_append, hl, List.take_of_length_le (by rw [hl]; omega), List.mem_append] at hs
          rcases hs with hs | hs
          · exact HV.out s hs
          · rw [show k + 1 - k = 1 by omega] at hs
            simp at hs
            rw [hs]; exact hz)
        clear hz
        go_wp2_with fail
        refine (zero_test B t _ _ hcf).mono ?_
        rintro e w1 ⟨rfl, hb1⟩
        clear hT hcf c0 c1 c2 c3 c4 c5
        have hb2 := hb.trans (hb1.mono hb.size)
        go_wp2
        go_roundw
        case rel => exact ⟨k + 1, by omega, by go_num, hb2, HV2⟩
        case measure => simp [intOf]; omega
    · have hkn : k = n := by omega
      subst hkn
      have HV2 := Lib.hid (show ∀ s ∈ L, zc s ≠ 0 by have := HV.out; rwa [List.take_of_length_le (by rw [HN.out]; omega)] at this)
      clear HV
      go_wp2
      go_ret
      exact ⟨.inl ⟨HV2.out, rfl⟩, hb⟩
end Go.Proofs.Ytnknidfpkmnncaa
