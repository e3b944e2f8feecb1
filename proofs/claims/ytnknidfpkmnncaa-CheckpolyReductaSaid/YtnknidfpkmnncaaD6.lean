/- The law's Poly. -/
import Derived.Test.YtnknidfpkmnncaaD5
namespace Go.Proofs.Ytnknidfpkmnncaa
open Go.RowKit

/-- The first j exponents. -/
def part' (j : Nat) (e : Ex) : Ex := (if 0 < j then e.1 else 0, if 1 < j then e.2.1 else 0, if 2 < j then e.2.2.1 else 0, if 3 < j then e.2.2.2 else 0)
/-- A term of a drawn polynomial: its numbers' ranges. -/
def MonoOk (m : Mono) : Prop := -128 ≤ m.1 ∧ m.1 ≤ 127 ∧ ∀ j, 0 ≤ ex m.2 j ∧ ex m.2 j ≤ 255

set_option maxRecDepth 100000 in
set_option maxHeartbeats 4000000 in
theorem poly_any (B : Nat) (A : Option Addr) (n c : Nat) (L : List Mono) (w : World) (hB : B ≤ w.heap.size) (h : MonoR B w A n c L) (hn : n ≤ 1073741824) :
    Calls Try.prog 15 #[.slice A n c] w (PolyP B L w) := by
  obtain ⟨i0, hi0, hz0, hz1, hz2⟩ := info_parts terminfo
  have hcap := h.row.cap
  go_enter Try.func15, Try.ntmps15
  go_wp2
  go_loopw [3, 4] (fun v i wr => ∃ (k : Nat) (L1 : List TV), k ≤ n ∧ i = .int .i64 k ∧ M1 B w (L.take k) v L1 wr) (fun _ i _ => n - (intOf i).toNat)
  case atStart => exact ⟨0, [], Nat.zero_le _, rfl, by simpa using M1.start B w⟩
  case round =>
    obtain ⟨W0, rfl⟩ : ∃ x, x = wr := ⟨_, rfl⟩
    obtain ⟨k, L1, hk, rfl, hM⟩ := hrel
    by_cases hkn : k < n
    · obtain ⟨b, off, rfl, hs1, HT⟩ := h.cells (by omega)
      obtain ⟨m, hm, hc0, hcj⟩ := HT k hkn
      have hws := hM.below.size
      have hmr := h.rng m (List.mem_of_getElem? hm)
      have HMR := Lib.hid hmr
      have HM := Lib.hid hm
      have hb := hM.below
      replace hc0 := (hb.cell (by exact hs1)).trans hc0
      have HCJ := Lib.hid hcj
      have i0' : (0 : Int) ≤ (k : Int) := by omega
      have i1 : (k : Int) < (n : Int) := by omega
      have hm1 := hmr.1
      have hm2 := hmr.2.1
      have hLn : L1.length ≤ 1073741824 := by
        have h3 := hM.reps.length
        rw [List.length_take] at h3
        omega
      clear HT hcj hm hmr
      go_wp2_with fail
      refine (int_any B m.1 hm1 hm2 _).mono ?_
      rintro e w1 ⟨A1, n1, c1, rfl, hd1, hb1⟩
      have hz1' := hb1.size
      have hM1 := hM.later hb1
      clear hM
      have hME : MExp B w1 w1.heap.size (decide (m.1 < 0)) A1 n1 c1 (digs m.1.natAbs) (part' 0 m.2) (w1.alloc (.cells #[.bool (decide (m.1 < 0)), .slice A1 n1 c1, .int .i64 0, .int .i64 0, .int .i64 0, .int .i64 0] 80)) :=
        ⟨heap_alloc_new w1 _, hd1.below ((Below.refl _ _).alloc (Nat.le_refl _) _) (Nat.le_refl _), (Below.refl _ _).alloc (Nat.le_refl _) _⟩
      go_wp2
      go_loopw [6] (fun i wr => ∃ j : Nat, j ≤ 4 ∧ i = .int .i64 j ∧ MExp B w1 w1.heap.size (decide (m.1 < 0)) A1 n1 c1 (digs m.1.natAbs) (part' j m.2) wr) (fun i _ => 4 - (intOf i).toNat)
      case atStart => exact ⟨0, by omega, rfl, hME⟩
      case round =>
        obtain ⟨j, hj, rfl, hMJ⟩ := hrel
        have hbx6 := hMJ.box.six
        have hfz := hMJ.box.frozen
        obtain ⟨r0, r1, r2, r3, r4, r5⟩ := hbx6
        have hbb := hM1.below.trans (hMJ.below.mono hM1.below.size)
        rcases j with _ | _ | _ | _ | j
        · have hst := hMJ.set (by omega) (Nat.le_refl _) (hMJ.box.set0 (m.2.1))
          have hx : wr.cell? ⟨b, off + k * 5 + 1 + 0, none⟩ = some (.int .u8 m.2.1) := (hbb.cell (by exact hs1)).trans (HCJ.out 0 (by omega))
          have hr1 : 0 ≤ m.2.1 := (HMR.out.2.2 0).1
          have hr2 : m.2.1 ≤ 255 := (HMR.out.2.2 0).2
          have HST := Lib.hid hst
          clear hst
          replace r2 : wr.cell? ⟨w1.heap.size, 2, none⟩ = some (.int .i64 0) := r2
          go_wp2
          exact ⟨⟨1, by omega, rfl, HST.out⟩, by simp [intOf]⟩
        · have hst := hMJ.set (by omega) (Nat.le_refl _) (hMJ.box.set1 (m.2.2.1))
          have hx : wr.cell? ⟨b, off + k * 5 + 1 + 1, none⟩ = some (.int .u8 m.2.2.1) := (hbb.cell (by exact hs1)).trans (HCJ.out 1 (by omega))
          have hr1 : 0 ≤ m.2.2.1 := (HMR.out.2.2 1).1
          have hr2 : m.2.2.1 ≤ 255 := (HMR.out.2.2 1).2
          have HST := Lib.hid hst
          clear hst
          replace r3 : wr.cell? ⟨w1.heap.size, 3, none⟩ = some (.int .i64 0) := r3
          go_wp2
          exact ⟨⟨2, by omega, rfl, HST.out⟩, by simp [intOf]⟩
        · have hst := hMJ.set (by omega) (Nat.le_refl _) (hMJ.box.set2 (m.2.2.2.1))
          have hx : wr.cell? ⟨b, off + k * 5 + 1 + 2, none⟩ = some (.int .u8 m.2.2.2.1) := (hbb.cell (by exact hs1)).trans (HCJ.out 2 (by omega))
          have hr1 : 0 ≤ m.2.2.2.1 := (HMR.out.2.2 2).1
          have hr2 : m.2.2.2.1 ≤ 255 := (HMR.out.2.2 2).2
          have HST := Lib.hid hst
          clear hst
          replace r4 : wr.cell? ⟨w1.heap.size, 4, none⟩ = some (.int .i64 0) := r4
          go_wp2
          exact ⟨⟨3, by omega, rfl, HST.out⟩, by simp [intOf]⟩
        · have hst := hMJ.set (by omega) (Nat.le_refl _) (hMJ.box.set3 (m.2.2.2.2))
          have hx : wr.cell? ⟨b, off + k * 5 + 1 + 3, none⟩ = some (.int .u8 m.2.2.2.2) := (hbb.cell (by exact hs1)).trans (HCJ.out 3 (by omega))
          have hr1 : 0 ≤ m.2.2.2.2 := (HMR.out.2.2 3).1
          have hr2 : m.2.2.2.2 ≤ 255 := (HMR.out.2.2 3).2
          have HST := Lib.hid hst
          clear hst
          replace r5 : wr.cell? ⟨w1.heap.size, 5, none⟩ = some (.int .i64 0) := r5
          go_wp2
          exact ⟨⟨4, by omega, rfl, HST.out⟩, by simp [intOf]⟩
        · obtain rfl : j = 0 := by omega
          replace r0 : wr.cell? ⟨w1.heap.size, 0, none⟩ = some (.bool (decide (m.1 < 0))) := r0
          replace r1 : wr.cell? ⟨w1.heap.size, 1, none⟩ = some (.slice A1 n1 c1) := r1
          replace r2 : wr.cell? ⟨w1.heap.size, 2, none⟩ = some (.int .i64 m.2.1) := r2
          replace r3 : wr.cell? ⟨w1.heap.size, 3, none⟩ = some (.int .i64 m.2.2.1) := r3
          replace r4 : wr.cell? ⟨w1.heap.size, 4, none⟩ = some (.int .i64 m.2.2.2.1) := r4
          replace r5 : wr.cell? ⟨w1.heap.size, 5, none⟩ = some (.int .i64 m.2.2.2.2) := r5
          have hal : Below wr.heap.size wr (wr.alloc (.cells #[.bool (decide (m.1 < 0)), .slice A1 n1 c1, .int .i64 m.2.1, .int .i64 m.2.2.1, .int .i64 m.2.2.2.1, .int .i64 m.2.2.2.2] 80)) := (Below.refl _ _).alloc (Nat.le_refl _) _
          have hM5 := (hM1.later hMJ.below).later hal
          have hd5 := hMJ.dig.below hal (Nat.le_refl _)
          have hwr : w.heap.size ≤ wr.heap.size := hbb.size
          clear hMJ hfz hME hal hM1
          go_wp2_with (at_builtin; refine wpList_append_lies _ rfl _ _ _ rfl w.heap.size 80 i0 _ 6 64 Try.underlying26 hi0 hz0 hz1 hz2 rfl (by omega) u3 L1.length (flat L1) rfl hM5.own ⟨wr.heap.size, 0, none⟩ 1 1 (flat [⟨decide (m.1 < 0), A1, n1, c1, m.2⟩]) rfl rfl (World.news_of_block (cs := #[.bool (decide (m.1 < 0)), .slice A1 n1 c1, .int .i64 m.2.1, .int .i64 m.2.2.1, .int .i64 m.2.2.2.1, .int .i64 m.2.2.2.2]) (t := 80) (fr := (0, 0)) (heap_alloc_new wr _)) (flat_one _) (by omega) (by simp only [maxLen]; omega) (by omega) (by simp; omega) (wr.heap.size + 1) (by simp) ?_; intro gg cap w3 hown3 hgrow hat hlt3)
          have hM6 := hM5.push (p := m) (t := ⟨decide (m.1 < 0), A1, n1, c1, m.2⟩) rfl hown3 hgrow ⟨rfl, hd5⟩ (by omega)
          clear hM5 hd5 hown3 hgrow hat
          go_wp2
          go_roundw
          case rel => exact ⟨k + 1, _, by omega, by go_num, by rw [List.take_add_one, HM.out]; exact hM6⟩
          case measure => simp [intOf]; omega
    · obtain rfl : k = n := by omega
      have hM9 := hM
      rw [List.take_of_length_le (by rw [h.lenL]; exact Nat.le_refl _)] at hM9
      obtain ⟨A5, c5, rfl⟩ := own_slice hM9.own
      have hP5 : PolyC B W0 A5 L1.length c5 L := ⟨L1, Row.of_own hM9.own, hM9.reps⟩
      have hbb := hM9.below
      clear hM9 hM
      go_wp2
      go_ret
      exact ⟨_, _, _, rfl, hP5, hbb⟩
end Go.Proofs.Ytnknidfpkmnncaa
