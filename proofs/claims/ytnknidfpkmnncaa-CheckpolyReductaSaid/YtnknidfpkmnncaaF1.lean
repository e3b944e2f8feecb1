/- The library's Grow and Concat over rows of terms; neg, Add, Sub. -/
import Derived.Test.YtnknidfpkmnncaaDA
import Derived.Lib.AppendZeros
namespace Go.Proofs.Ytnknidfpkmnncaa
open Go.RowKit

theorem grow_zero (w : World) : Calls Try.prog 75 #[.slice none 0 0, .int .i64 0] w fun e w' => e = .returned (.slice none 0 0) ∧ w = w' := by
  go_enter Try.func75, Try.ntmps75
  go_wp2
  go_ret
  exact ⟨rfl, rfl⟩
/-- A new row without elements, with room. -/
def RoomP (w : World) (e : Ending) (w' : World) : Prop := ∃ g cap, e = .returned (.slice (some ⟨g, 0, none⟩) 0 cap) ∧ w'.ownsRow w.heap.size 80 6 (.slice (some ⟨g, 0, none⟩) 0 cap) 0 [] ∧ Below w.heap.size w w'
set_option maxRecDepth 100000 in
set_option maxHeartbeats 1000000 in
theorem grow_nil (n : Nat) (w : World) (h0 : 0 < n) (hn : n ≤ 1073741824) : Calls Try.prog 75 #[.slice none 0 0, .int .i64 n] w (RoomP w) := by
  obtain ⟨i0, hi0, hz0, hz1, hz2⟩ := info_parts terminfo
  have hr := Lib.run_append_nil_zeros (P := Try.prog) w 26 3 26 80 i0 _ .i64 .i64 Try.underlying26 Try.underlying3 hi0 hz0 n h0 (by rw [hz1]; omega) (by omega) (by rw [hz2]; omega)
  have HR := Lib.hid hr
  clear hr
  have hge := grownCap_ge w n 0 80
  have hcm : grownCap w n 0 80 ≤ maxLen := grownCap_le_maxLen w n 0 80 (by unfold maxLen; omega)
  generalize grownCap w n 0 80 = cap at *
  have HCM := Lib.hid hcm
  unfold maxLen at hcm
  have h0' : (0 : Int) < (n : Int) := by omega
  go_enter Try.func75, Try.ntmps75
  go_wp2_with (at_builtin; refine Lib.wpList_append_run _ rfl _ _ _ _ rfl _ _ rfl rfl _ _ HR.out ?_)
  go_ret
  refine ⟨w.heap.size, cap, rfl, ⟨by simp, .inr ⟨w.heap.size, cap, _, rfl, Nat.le_refl _, heap_alloc_new w.drew _, Nat.zero_le _, HCM.out, ?_, by simp⟩⟩, ((Below.refl _ _).drew).alloc (Nat.le_refl _) _⟩
  rw [Array.size_append, size_zeroCells, size_zeroCells, ← Nat.add_mul]
  congr 1
  omega

/-- What comes back reads as the polynomial al; what existed is as it was. -/
def PolyWP (B : Nat) (al : List Tm) (w : World) (e : Ending) (w' : World) : Prop :=
  ∃ A' n' c', e = .returned (.slice A' n' c') ∧ PolyW B w' A' n' c' al ∧ Below w.heap.size w w'
/-- The state of Concat's second loop. -/
structure CC (B : Nat) (w : World) (pl : List Tm) (v : Value) (L : List TV) (wr : World) : Prop where
  own : wr.ownsRow w.heap.size 80 6 v L.length (flat L)
  reps : Reps (CoefW B w) L pl
  below : Below w.heap.size w wr
theorem CC.push {B : Nat} {w wr w' : World} {pl al : List Tm} {v v' : Value} {L M : List TV} {n : Nat} (h : CC B w pl v L wr) (hM : M.length = n) (hr : Reps (CoefW B w) M al) (hown : w'.ownsRow w.heap.size 80 6 v' (L.length + n) (flat L ++ flat M)) (hg : wr.grownBy w' v.ownBlock) : CC B w (pl ++ al) v' (L ++ M) w' :=
  ⟨by rw [List.length_append, hM, flat_append]; exact hown, h.reps.append hr, h.below.grown hg h.below.size (fun k hk => own_base h.own k hk)⟩

set_option maxRecDepth 100000 in
set_option maxHeartbeats 2000000 in
theorem concat_any (B H : Nat) (A A2 : Option Addr) (n c n2 c2 : Nat) (al bl : List Tm) (w : World) (hH : w.heap[H]? = some (.cells #[.slice A n c, .slice A2 n2 c2] 26 (0, 0))) (h : PolyW B w A n c al) (h2 : PolyW B w A2 n2 c2 bl) (hn : n + n2 ≤ 1073741824) :
    Calls Try.prog 54 #[.slice (some ⟨H, 0, none⟩) 2 2] w (PolyWP B (al ++ bl) w) := by
  obtain ⟨i0, hi0, hz0, hz1, hz2⟩ := info_parts terminfo
  have hc0 : w.cell? ⟨H, 0, none⟩ = some (.slice A n c) := by rw [cell_of_row w H 0 _ _ _ hH]; rfl
  have hc1 : w.cell? ⟨H, 1, none⟩ = some (.slice A2 n2 c2) := by rw [cell_of_row w H 1 _ _ _ hH]; rfl
  have hHl : H < w.heap.size := (Array.getElem?_eq_some_iff.1 hH).1
  obtain ⟨L, hP⟩ := h
  obtain ⟨L2, hP2⟩ := h2
  have hl1 := hP.lenL
  have hl2 := hP2.lenL
  have HL1 := Lib.hid hl1
  have HL2 := Lib.hid hl2
  clear hH hl1 hl2
  go_enter Try.func54, Try.ntmps54
  go_wp2_with fail
  go_loop [3, 11] (fun s i => (i = .int .i64 0 ∧ s = .int .i64 0) ∨ (i = .int .i64 1 ∧ s = .int .i64 n) ∨ (i = .int .i64 2 ∧ s = .int .i64 ((n : Int) + (n2 : Int)))) (fun _ i => 2 - (intOf i).toNat)
  case atStart => exact .inl ⟨rfl, rfl⟩
  case round =>
    rcases hrel with ⟨rfl, rfl⟩ | ⟨rfl, rfl⟩ | ⟨rfl, rfl⟩
    · go_wp2_with fail
      go_round
      case rel => exact .inr (.inl ⟨rfl, rfl⟩)
      case measure => simp [intOf]
    · go_wp2_with fail
      go_round
      case rel => exact .inr (.inr ⟨rfl, rfl⟩)
      case measure => simp [intOf]
    · have hG : Calls Try.prog 75 #[.slice none 0 0, .int .i64 ((n : Int) + (n2 : Int))] w fun e w1 => ∃ v, e = .returned v ∧ CC B w [] v [] w1 := by
        rcases Nat.eq_zero_or_pos (n + n2) with hz | hz
        · rw [show (n : Int) + (n2 : Int) = 0 by omega]
          refine (grow_zero w).mono ?_
          rintro e w1 ⟨rfl, rfl⟩
          exact ⟨_, rfl, World.ownsRow_nil _ _ _ _, trivial, Below.refl _ _⟩
        · rw [show (n : Int) + (n2 : Int) = ((n + n2 : Nat) : Int) by omega]
          refine (grow_nil (n + n2) w hz hn).mono ?_
          rintro e w1 ⟨g, cap, rfl, h1, h2⟩
          exact ⟨_, rfl, h1, trivial, h2⟩
      have HG := Lib.hid hG
      clear hG
      go_wp2_with fail
      refine HG.out.mono ?_
      rintro e w1 ⟨v, rfl, hC⟩
      have HC := Lib.hid hC
      clear hC HG
      go_wp2_with fail
      go_loopw [6, 27] (fun v i wr => (i = .int .i64 0 ∧ CC B w [] v [] wr) ∨ (i = .int .i64 1 ∧ CC B w al v L wr) ∨ (i = .int .i64 2 ∧ CC B w (al ++ bl) v (L ++ L2) wr)) (fun _ i _ => 2 - (intOf i).toNat)
      case atStart => exact .inl ⟨rfl, HC.out⟩
      case round =>
        rcases hrel with ⟨rfl, hK⟩ | ⟨rfl, hK⟩ | ⟨rfl, hK⟩
        · have hb := hK.below
          replace hc0 := (hb.cell (p := ⟨H, 0, none⟩) hHl).trans hc0
          have hrow := hP.row.below (by omega) hb (Nat.le_refl _)
          have hws := hb.size
          clear hb
          go_wp2_with (at_builtin; refine wpList_append_row _ rfl _ _ 26 rfl w.heap.size 80 i0 _ 6 64 Try.underlying26 hi0 hz0 hz1 hz2 rfl (by omega) _ 0 [] rfl hK.own B _ A n c (flat L) rfl hrow (flat_one _) (by simp only [maxLen]; omega) (by omega) hws ?_; intro v1 w1 hown hg _)
          have hK1 := hK.push (M := L) HL1.out hP.reps hown hg
          have HK1 := Lib.hid hK1
          clear hK hK1 hown hg hrow
          go_wp2
          go_roundw
          case rel => exact .inr (.inl ⟨rfl, by simpa using HK1.out⟩)
          case measure => simp [intOf]
        · have hb := hK.below
          replace hc1 := (hb.cell (p := ⟨H, 1, none⟩) hHl).trans hc1
          have hrow := hP2.row.below (by omega) hb (Nat.le_refl _)
          have hws := hb.size
          have hown0 := hK.own
          rw [HL1.out] at hown0
          clear hb
          go_wp2_with (at_builtin; refine wpList_append_row _ rfl _ _ 26 rfl w.heap.size 80 i0 _ 6 64 Try.underlying26 hi0 hz0 hz1 hz2 rfl (by omega) _ n (flat L) rfl hown0 B _ A2 n2 c2 (flat L2) rfl hrow (flat_one _) (by simp only [maxLen]; omega) (by omega) hws ?_; intro v1 w1 hown hg _)
          have hK1 := hK.push (M := L2) HL2.out hP2.reps (by rw [HL1.out]; exact hown) hg
          have HK1 := Lib.hid hK1
          clear hK hK1 hown hg hrow hown0
          go_wp2
          go_roundw
          case rel => exact .inr (.inr ⟨rfl, HK1.out⟩)
          case measure => simp [intOf]
        · obtain ⟨A5, c5, rfl⟩ := own_slice hK.own
          have HK := Lib.hid hK
          clear hK
          go_wp2
          go_ret
          exact ⟨_, _, _, rfl, ⟨_, Row.of_own HK.out.own, HK.out.reps.mono fun t z _ hr => hr.below HK.out.below (Nat.le_refl _)⟩, HK.out.below⟩
end Go.Proofs.Ytnknidfpkmnncaa
