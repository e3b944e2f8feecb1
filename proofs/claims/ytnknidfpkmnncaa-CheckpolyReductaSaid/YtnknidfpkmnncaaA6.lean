/- natural.Sub. -/
import Derived.Test.YtnknidfpkmnncaaA5
namespace Go.Proofs.Ytnknidfpkmnncaa
open Go.RowKit

theorem Dig.drewN {B : Nat} {w : World} {A : Option Addr} {n c : Nat} {xs : List Nat} (h : Dig B w A n c xs) (k : Nat) : Dig B (w.drewN k) A n c xs :=
  h.below ((Drawn.refl w).drewN k |>.below w.heap.size) (Nat.le_refl _)

/-- What comes back: no digits and false; only orders have been drawn. -/
def SubNo (w : World) (e : Ending) (w' : World) : Prop := e = .returned (.tuple #[.slice none 0 0, .bool false]) ∧ Drawn w w'
/-- What comes back: the digits of m and true; what existed is as it was. -/
def SubYes (B m : Nat) (w : World) (e : Ending) (w' : World) : Prop :=
  ∃ A' n' c', e = .returned (.tuple #[.slice A' n' c', .bool true]) ∧ Dig B w' A' n' c' (digs m) ∧ Below w.heap.size w w'

set_option maxHeartbeats 1000000 in
theorem sub_no (B : Nat) (A A2 : Option Addr) (n c n2 c2 : Nat) (xs ys : List Nat) (w : World) (hx : Dig B w A n c xs) (hy : Dig B w A2 n2 c2 ys) (h : val xs < val ys) :
    Calls Try.prog 72 #[.slice A n c, .slice A2 n2 c2] w (SubNo w) := by
  have hc := cmp_any B _ _ _ _ _ _ _ _ _ hx hy
  rw [cmpN_lt h] at hc
  go_enter Try.func72, Try.ntmps72
  go_wp2_with fail
  refine hc.mono ?_
  rintro e w' ⟨rfl, m, rfl⟩
  clear hc
  go_wp2
  go_ret2
  exact ⟨rfl, m, rfl⟩

/-- The state of a difference's loop. -/
structure SubRel (w : World) (na : Nat) (zs : List Nat) (b : Nat) (wr : World) : Prop where
  made : Made wr w.heap.size zs
  len : zs.length = na
  lt : Lt32 zs
  b : b ≤ 1
  below : Below w.heap.size w wr
theorem SubRel.start (w : World) (m na : Nat) : SubRel w na (List.replicate na 0) 0 ((w.drewN m).alloc (Obj.cells (zeroRow na) 109)) where
  made := Made.new (w.drewN m) na
  len := by simp
  lt := lt32_replicate _
  b := by omega
  below := ((Drawn.refl w).drewN m |>.below w.heap.size).alloc (Nat.le_refl _) _
theorem SubRel.step {w wr : World} {na b : Nat} {zs : List Nat} (h : SubRel w na zs b wr) (k s b' : Nat) (hs : s < 4294967296) (hb : b' ≤ 1) :
    SubRel w na (zs.set k s) b' (wr.setCell ⟨w.heap.size, k, none⟩ (.int .u32 s)) where
  made := h.made.set_ k s
  len := by simpa using h.len
  lt := h.lt.set k hs
  b := hb
  below := h.below.setCell (by simp) _

set_option maxRecDepth 100000 in
set_option maxHeartbeats 1000000 in
theorem sub_yes (B : Nat) (A A2 : Option Addr) (n c n2 c2 : Nat) (xs ys : List Nat) (w : World) (hx : Dig B w A n c xs) (hy : Dig B w A2 n2 c2 ys) (hn : n ≤ 1099511627776) (hn2 : n2 ≤ 1099511627776) (h : val ys ≤ val xs) :
    Calls Try.prog 72 #[.slice A n c, .slice A2 n2 c2] w (SubYes B (val xs - val ys) w) := by
  have hxl := digs_len_of hx
  have hyl := digs_len_of hy
  have hc := cmp_any B _ _ _ _ _ _ _ _ _ hx hy
  obtain ⟨cv, hcv, hcv0⟩ : ∃ cv, cmpN (val xs) (val ys) = cv ∧ (cv = 0 ∨ cv = 1) := by
    refine ⟨_, rfl, ?_⟩
    rcases Nat.lt_or_ge (val ys) (val xs) with h1 | h1
    · exact .inr (cmpN_gt h1)
    · have : val xs = val ys := by omega
      rw [this, cmpN_eq]; exact .inl rfl
  rw [hcv] at hc
  have hcv1 : 0 ≤ cv := by omega
  clear hcv hcv0
  have HC := Lib.hid hc
  clear hc
  go_enter Try.func72, Try.ntmps72
  go_wp2_with fail
  refine HC.out.mono ?_
  rintro e w' ⟨rfl, m, rfl⟩
  clear HC
  have hx' := hx.drewN m
  have hy' := hy.drewN m
  go_wp2_with fail
  refine (trim_any B _ _ _ _ _ hx').mono ?_
  rintro e w' ⟨A', n', c', rfl, h', rfl⟩
  have hbd := h'.bd
  have hcap := h'.cap
  go_wp2_with fail
  refine (trim_any B _ _ _ _ _ hy').mono ?_
  rintro e w' ⟨A'2, n'2, c'2, rfl, h'2, rfl⟩
  have hbd2 := h'2.bd
  have hcap2 := h'2.cap
  have hn' : n' ≤ 1099511627776 := by have := h'.len; omega
  have hn2' : n'2 ≤ 1099511627776 := by have := h'2.len; omega
  clear hx hy hxl hyl hx' hy'
  generalize val xs = p at *
  generalize val ys = q at *
  have hnm : n'2 ≤ n' := by
    have := digs_length_mono h
    rw [h'.len, h'2.len] at this
    exact this
  have hmk := fun W => run_make_digits n' (n' : Int) rfl (by omega) W
  go_wp2
  go_loopw [7, 24] (fun b i wr => ∃ (k bw : Nat) (zs : List Nat), k ≤ n' ∧ i = .int .i64 k ∧ b = .int .u32 bw ∧ SubRel w n' zs bw wr ∧ Hid (val (zs.take k) + val ((digs q).take k) = val ((digs p).take k) + bp k * bw))
    (fun _ i _ => n' - (intOf i).toNat)
  case atStart => exact ⟨0, 0, _, Nat.zero_le _, rfl, rfl, SubRel.start w m n', Lib.hid (by simp [val_nil])⟩
  case round =>
    obtain ⟨k, bw, zs, hk, rfl, rfl, hR, HV⟩ := hrel
    have hbw := hR.b
    by_cases hlt : k < n'
    · obtain ⟨ad, rfl, hca⟩ := h'.cell k hlt
      have hca' := (hR.below.cell (World.block_lt_of_cell? w _ hca)).trans hca
      have hout := hR.made.cell (k := k) (by rw [hR.len]; exact hlt)
      have houtf := hR.made.frozen k
      have hda := h'.dig k
      have hdb := h'2.dig k
      have hkz : k < zs.length := by rw [hR.len]; exact hlt
      have HN := Lib.hid (sub_round hkz hda hdb hbw HV.out (by have := Nat.mul_le_mul_left (bp k) hbw; simpa using this))
      have HR2 := hR.step k ((dg (digs p) k + 8589934592 - dg (digs q) k - bw) % 4294967296) (borrow (dg (digs p) k) (dg (digs q) k) bw) (by omega) (borrow_le _ _ _)
      clear HV hkz hmk hca
      by_cases hlt2 : k < n'2
      · obtain ⟨ad2, rfl, hcb⟩ := h'2.cell k hlt2
        have hcb' := (hR.below.cell (World.block_lt_of_cell? w _ hcb)).trans hcb
        clear hcb
        go_wp2_with fail
        refine (sub32_any _ _ _ _ hda hdb hbw).mono ?_
        rintro e w' ⟨rfl, rfl⟩
        go_wp2
        go_roundw
        case rel => exact ⟨k + 1, _, _, by omega, by go_num, rfl, HR2, HN⟩
        case measure => simp [intOf]; omega
      · have hz : dg (digs q) k = 0 := dg_beyond _ _ (by rw [h'2.len]; omega)
        rw [hz] at hdb HN HR2
        clear hz
        go_wp2_with fail
        refine (sub32_any _ 0 _ _ hda hdb hbw).mono ?_
        rintro e w' ⟨rfl, rfl⟩
        go_wp2
        go_roundw
        case rel => exact ⟨k + 1, _, _, by omega, by go_num, rfl, HR2, HN⟩
        case measure => simp [intOf]; omega
    · have hk' : k = n' := by omega
      subst hk'
      have hval : val zs = p - q := by
        have h1 := HV.out
        rw [val_take_all zs k (by rw [hR.len]; exact Nat.le_refl _), val_take_all (digs p) k (by rw [h'.len]; exact Nat.le_refl _), val_take_all (digs q) k (by rw [h'2.len]; exact hnm), val_digs, val_digs] at h1
        exact sub_last hR.len hR.lt hbw h h1
      have HVal := Lib.hid hval
      have hd := hR.made.dig hR.lt (by rw [hR.len]; omega) B
      rw [hR.len] at hd
      have hbel := hR.below
      clear hval HV hR hmk
      go_wp2_with fail
      refine (trim_any B _ _ _ _ _ hd).mono ?_
      rintro e w' ⟨Az, nz, cz, rfl, hz, rfl⟩
      go_wp2
      go_ret2
      rw [HVal.out] at hz
      exact ⟨_, _, _, rfl, hz, hbel⟩
end Go.Proofs.Ytnknidfpkmnncaa
