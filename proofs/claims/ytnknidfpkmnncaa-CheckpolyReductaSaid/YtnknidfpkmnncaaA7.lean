/- natural.Mul. -/
import Derived.Test.YtnknidfpkmnncaaA6
namespace Go.Proofs.Ytnknidfpkmnncaa
open Go.RowKit

theorem mul32_to (x y hi lo : Nat) (w : World) (hx : x < 4294967296) (hy : y < 4294967296) (h1 : x * y / 4294967296 = hi) (h2 : x * y % 4294967296 = lo) :
    Calls Try.prog 78 #[.int .u32 x, .int .u32 y] w fun e w' => e = .returned (.tuple #[.int .u32 hi, .int .u32 lo]) ∧ w = w' := by
  subst h1 h2
  exact mul32_any x y w hx hy
theorem add32_to (x y c s d : Nat) (w : World) (hx : x < 4294967296) (hy : y < 4294967296) (hc : c ≤ 1) (h1 : (x + y + c) % 4294967296 = s) (h2 : (x + y + c) / 4294967296 = d) :
    Calls Try.prog 79 #[.int .u32 x, .int .u32 y, .int .u32 c] w fun e w' => e = .returned (.tuple #[.int .u32 s, .int .u32 d]) ∧ w = w' := by
  subst h1 h2
  exact add32_any x y c w hx hy hc

/-- The state of a product's loops. -/
structure MulRel (w : World) (n : Nat) (zs : List Nat) (wr : World) : Prop where
  made : Made wr w.heap.size zs
  len : zs.length = n
  lt : Lt32 zs
  below : Below w.heap.size w wr
theorem MulRel.start (w : World) (n : Nat) : MulRel w n (List.replicate n 0) (w.alloc (Obj.cells (zeroRow n) 109)) where
  made := Made.new w n
  len := by simp
  lt := lt32_replicate _
  below := (Below.refl _ _).alloc (Nat.le_refl _) _
theorem MulRel.step {w wr : World} {n : Nat} {zs : List Nat} (h : MulRel w n zs wr) (k s : Nat) (hs : s < 4294967296) :
    MulRel w n (zs.set k s) (wr.setCell ⟨w.heap.size, k, none⟩ (.int .u32 s)) where
  made := h.made.set_ k s
  len := by simpa using h.len
  lt := h.lt.set k hs
  below := h.below.setCell (by simp) _

set_option maxRecDepth 100000 in
set_option maxHeartbeats 2000000 in
theorem mul_any (B : Nat) (A A2 : Option Addr) (n c n2 c2 : Nat) (xs ys : List Nat) (w : World) (hx : Dig B w A n c xs) (hy : Dig B w A2 n2 c2 ys) (hn : n ≤ 1099511627776) (hn2 : n2 ≤ 1099511627776) :
    Calls Try.prog 58 #[.slice A n c, .slice A2 n2 c2] w (NatP B (val xs * val ys) w) := by
  have hxl := digs_len_of hx
  have hyl := digs_len_of hy
  go_enter Try.func58, Try.ntmps58
  go_wp2_with fail
  refine (trim_any B _ _ _ _ _ hx).mono ?_
  rintro e w' ⟨A', n', c', rfl, h', rfl⟩
  have hbd := h'.bd
  have hcap := h'.cap
  go_wp2_with fail
  refine (trim_any B _ _ _ _ _ hy).mono ?_
  rintro e w' ⟨A'2, n'2, c'2, rfl, h'2, rfl⟩
  have hbd2 := h'2.bd
  have hcap2 := h'2.cap
  have hn' : n' ≤ 1099511627776 := by have := h'.len; omega
  have hn2' : n'2 ≤ 1099511627776 := by have := h'2.len; omega
  clear hx hy hxl hyl
  generalize val xs = p at *
  generalize val ys = q at *
  rcases Nat.eq_zero_or_pos n' with h0 | h0
  · have hp : p = 0 := digs_eq_nil.1 (List.eq_nil_of_length_eq_zero (by rw [h'.len]; exact h0))
    have HP := Lib.hid hp
    clear hp
    have h0' : ((n' : Int) == 0) = true := by rw [beq_iff_eq]; omega
    clear h0
    go_wp2
    go_ret
    rw [HP.out, Nat.zero_mul]
    exact ⟨_, _, _, rfl, by rw [digs_zero]; exact Dig.nil, Below.refl _ _⟩
  · rcases Nat.eq_zero_or_pos n'2 with h02 | h02
    · have hp : q = 0 := digs_eq_nil.1 (List.eq_nil_of_length_eq_zero (by rw [h'2.len]; exact h02))
      have HP := Lib.hid hp
      clear hp
      have h0' : ((n' : Int) == 0) = false := by rw [beq_eq_false_iff_ne]; omega
      have h02' : ((n'2 : Int) == 0) = true := by rw [beq_iff_eq]; omega
      clear h0 h02
      go_wp2
      go_ret
      rw [HP.out, Nat.mul_zero]
      exact ⟨_, _, _, rfl, by rw [digs_zero]; exact Dig.nil, Below.refl _ _⟩
    · have h0' : ((n' : Int) == 0) = false := by rw [beq_eq_false_iff_ne]; omega
      have h02' : ((n'2 : Int) == 0) = false := by rw [beq_eq_false_iff_ne]; omega
      have hmk := fun W => run_make_digits (n' + n'2) ((n' : Int) + n'2) (by omega) (by omega) W
      go_wp2
      clear hmk h0' h02'
      go_loopw [35] (fun i wr => ∃ (k : Nat) (zs : List Nat), k ≤ n' ∧ i = .int .i64 k ∧ MulRel w (n' + n'2) zs wr ∧ Hid (val zs = val ((digs p).take k) * q) ∧ Hid (∀ j, k + n'2 ≤ j → dg zs j = 0))
        (fun i _ => n' - (intOf i).toNat)
      case atStart => exact ⟨0, _, Nat.zero_le _, rfl, MulRel.start w _, Lib.hid (by rw [val_replicate]; simp [val_nil]), Lib.hid (fun j _ => by rw [dg_replicate]; split <;> rfl)⟩
      case round =>
        obtain ⟨i, zs, hi, rfl, hR, HV, HZ⟩ := hrel
        by_cases hlt : i < n'
        · obtain ⟨ad, rfl, hca⟩ := h'.cell i hlt
          have hca' := (hR.below.cell (World.block_lt_of_cell? w _ hca)).trans hca
          have hdx := h'.dig i
          by_cases hz : dg (digs p) i = 0
          · have HV2 := Lib.hid (show val zs = val ((digs p).take (i + 1)) * q by rw [HV.out, val_take_succ_any, hz]; simp)
            have hz' : (((dg (digs p) i : Nat) : Int) == 0) = true := by rw [hz]; rfl
            clear hz hca HV
            go_wp2
            go_roundw
            case rel => exact ⟨i + 1, _, by omega, by go_num, hR, HV2, Lib.hid (fun j hj => HZ.out j (by omega))⟩
            case measure => simp [intOf]; omega
          · have hz' : (((dg (digs p) i : Nat) : Int) == 0) = false := by rw [beq_eq_false_iff_ne]; omega
            clear hz hca
            go_wp2
            simp only [Nat.add_sub_cancel_left]
            have hlen := hR.len
            go_loopw [8, 51] (fun cv kv wq => ∃ (k cy : Nat) (zq : List Nat), k ≤ n'2 ∧ kv = .int .i64 k ∧ cv = .int .u32 cy ∧ cy < 4294967296 ∧ MulRel w (n' + n'2) zq wq ∧
                Hid (val zq + bp (i + k) * cy = val zs + bp i * (dg (digs p) i * val ((digs q).take k))) ∧ Hid (∀ j, i + k ≤ j → dg zq j = dg zs j))
              (fun _ kv _ => n'2 - (intOf kv).toNat)
            case atStart => exact ⟨0, 0, zs, Nat.zero_le _, rfl, rfl, by omega, hR, Lib.hid (by simp [val_nil]), Lib.hid (fun _ _ => rfl)⟩
            case round =>
              obtain ⟨k, cy, zq, hk, rfl, rfl, hcy, hQ, HQ, HE⟩ := hrel
              by_cases hlt2 : k < n'2
              · obtain ⟨ad2, rfl, hcb⟩ := h'2.cell k hlt2
                have hcb' := (hQ.below.cell (World.block_lt_of_cell? w _ hcb)).trans hcb
                have hdy := h'2.dig k
                have hik : i + k < zq.length := by rw [hQ.len]; omega
                have hout := hQ.made.cell hik
                have houtf := hQ.made.frozen (i + k)
                have hdd := hQ.lt (i + k)
                obtain ⟨hh, lo, s1, c1, s2, c3, ⟨e1, e2, e3, e4, e5, e6⟩, b1, b2, b3, b4, b5, b6, he⟩ := mul_digits (dg (digs p) i) (dg (digs q) k) (dg zq (i + k)) cy hdx hdy hdd hcy
                have HN := Lib.hid (mul_round hik HQ.out he)
                have HR2 := hQ.step (i + k) s2 b3
                have HE2 := Lib.hid (show ∀ j, i + (k + 1) ≤ j → dg (zq.set (i + k) s2) j = dg zs j from fun j hj => by rw [dg_set, if_neg (by omega)]; exact HE.out j (by omega))
                have hm1 := fun W => mul32_to _ _ hh lo W hdx hdy e1 e2
                have hm2 := fun W => add32_to lo (dg zq (i + k)) 0 s1 c1 W b1 hdd (by omega) e3 e4
                have hm3 := fun W => add32_to s1 cy 0 s2 c3 W b2 hcy (by omega) e5 e6
                have HM1 := Lib.hid hm1
                have HM2 := Lib.hid hm2
                have HM3 := Lib.hid hm3
                clear hm1 hm2 hm3 e1 e2 e3 e4 e5 e6 he HQ HE hik hcb hR
                go_wp2_with fail
                refine (HM1.out _).mono ?_
                rintro e w' ⟨rfl, rfl⟩
                go_wp2_with fail
                refine (HM2.out _).mono ?_
                rintro e w' ⟨rfl, rfl⟩
                go_wp2_with fail
                refine (HM3.out _).mono ?_
                rintro e w' ⟨rfl, rfl⟩
                clear HM1 HM2 HM3
                go_wp2
                go_roundw
                case rel => exact ⟨k + 1, hh + c1 + c3, _, by omega, by go_num, by go_num, b6, HR2, HN, HE2⟩
                case measure => simp [intOf]; omega
              · have hk' : k = n'2 := by omega
                subst hk'
                have hik : i + k < zq.length := by rw [hQ.len]; omega
                have hout := hQ.made.cell hik
                have houtf := hQ.made.frozen (i + k)
                have hval : val (zq.set (i + k) cy) = val ((digs p).take (i + 1)) * q := by
                  have h1 := val_set zq (i + k) cy hik
                  rw [HE.out (i + k) (Nat.le_refl _), HZ.out (i + k) (Nat.le_refl _)] at h1
                  have h2 := HQ.out
                  rw [val_take_all (digs q) k (by rw [h'2.len]; exact Nat.le_refl _), val_digs q, HV.out] at h2
                  rw [val_take_succ_any, Nat.add_mul, Nat.mul_assoc, ← h2]
                  omega
                have HVal := Lib.hid hval
                have HR2 := hQ.step (i + k) cy hcy
                have HZ2 := Lib.hid (show ∀ j, (i + 1) + k ≤ j → dg (zq.set (i + k) cy) j = 0 from fun j hj => by rw [dg_set, if_neg (by omega), HE.out j (by omega)]; exact HZ.out j (by omega))
                clear hval HQ HE HV HZ hik hR
                go_wp2
                go_roundw
                case rel => exact ⟨i + 1, _, by omega, by go_num, HR2, HVal, HZ2⟩
                case measure => simp [intOf]; omega
        · have hi' : i = n' := by omega
          subst hi'
          have hval : val zs = p * q := by rw [HV.out, val_take_all (digs p) i (by rw [h'.len]; exact Nat.le_refl _), val_digs p]
          have HVal := Lib.hid hval
          have hd := hR.made.dig hR.lt (by rw [hR.len]; omega) B
          rw [hR.len] at hd
          have hbel := hR.below
          clear hval HV HZ hR
          go_wp2_with fail
          refine (trim_any B _ _ _ _ _ hd).mono ?_
          rintro e w' ⟨Az, nz, cz, rfl, hz, rfl⟩
          go_wp2
          go_ret
          rw [HVal.out] at hz
          exact ⟨_, _, _, rfl, hz, hbel⟩
end Go.Proofs.Ytnknidfpkmnncaa
