/- math/bits: Add32, Mul32, Sub32. -/
import Derived.Test.YtnknidfpkmnncaaA0
import Derived.Laws.BitsAllLaws
namespace Go.Proofs.Ytnknidfpkmnncaa
open Go.RowKit

theorem ret2_int {k k' : IntKind} {a a' b b' : Int} (h : a = a') (h' : b = b') : Ending.returned (.tuple #[.int k a, .int k' b]) = .returned (.tuple #[.int k a', .int k' b']) := by rw [h, h']

theorem add32_any (x y c : Nat) (w : World) (hx : x < 4294967296) (hy : y < 4294967296) (hc : c ≤ 1) :
    Calls Try.prog 79 #[.int .u32 x, .int .u32 y, .int .u32 c] w fun e w' =>
      e = .returned (.tuple #[.int .u32 ((x + y + c) % 4294967296 : Nat), .int .u32 ((x + y + c) / 4294967296 : Nat)]) ∧ w = w' := by
  go_enter Try.func79, Try.ntmps79
  go_wp2
  go_ret2
  exact ⟨ret2_int (by omega) (by omega), rfl⟩
theorem mul32_any (x y : Nat) (w : World) (hx : x < 4294967296) (hy : y < 4294967296) :
    Calls Try.prog 78 #[.int .u32 x, .int .u32 y] w fun e w' =>
      e = .returned (.tuple #[.int .u32 (x * y / 4294967296 : Nat), .int .u32 (x * y % 4294967296 : Nat)]) ∧ w = w' := by
  have hxy : x * y ≤ 4294967295 * 4294967295 := Nat.mul_le_mul (by omega) (by omega)
  have h1 : (x : Int) * (y : Int) = ((x * y : Nat) : Int) := by rw [Int.natCast_mul]
  have H1 := Lib.hid h1
  clear h1
  go_enter Try.func78, Try.ntmps78
  go_wp2
  go_ret2
  have h1 := H1.out
  exact ⟨ret2_int (by show (x : Int) * (y : Int) / 4294967296 = _; rw [h1]; omega) (by show (x : Int) * (y : Int) % 4294967296 = _; rw [h1]; omega), rfl⟩

theorem and_one {a b : Nat} (ha : a < 2) (hb : b < 2) : a &&& b = a * b := by
  match a, b, ha, hb with
  | 0, 0, _, _ => rfl
  | 0, 1, _, _ => rfl
  | 1, 0, _, _ => rfl
  | 1, 1, _, _ => rfl
theorem or_one {a b : Nat} (ha : a < 2) (hb : b < 2) : a ||| b = a + b - a * b := by
  match a, b, ha, hb with
  | 0, 0, _, _ => rfl
  | 0, 1, _, _ => rfl
  | 1, 0, _, _ => rfl
  | 1, 1, _, _ => rfl
theorem xor_one {a b : Nat} (ha : a < 2) (hb : b < 2) : a ^^^ b = a + b - 2 * (a * b) := by
  match a, b, ha, hb with
  | 0, 0, _, _ => rfl
  | 0, 1, _, _ => rfl
  | 1, 0, _, _ => rfl
  | 1, 1, _, _ => rfl
theorem top_lt {a : Nat} (ha : a < 4294967296) : a / 2 ^ 31 < 2 := by omega
theorem borrow_bits (x y b d : Nat) (hx : x < 4294967296) (hy : y < 4294967296) (hb : b ≤ 1) (hd : d = (x + 8589934592 - y - b) % 4294967296) :
    ((((4294967295 ^^^ x) &&& y) ||| ((4294967295 ^^^ (x ^^^ y)) &&& d)) / 2147483648) = borrow x y b := by
  have hd' : d < 4294967296 := by omega
  rw [show (2147483648 : Nat) = 2 ^ 31 from rfl, Nat.or_div_two_pow, Nat.and_div_two_pow, Nat.and_div_two_pow, Nat.xor_div_two_pow, Nat.xor_div_two_pow, Nat.xor_div_two_pow]
  have e : (4294967295 : Nat) / 2 ^ 31 = 1 := rfl
  rw [e]
  have t1 := top_lt hx
  have t2 := top_lt hy
  have t3 := top_lt hd'
  unfold borrow
  generalize hX : x / 2 ^ 31 = X at *
  generalize hY : y / 2 ^ 31 = Y at *
  generalize hD : d / 2 ^ 31 = D at *
  have hX' : x / 2147483648 = X := hX
  have hY' : y / 2147483648 = Y := hY
  have hD' : d / 2147483648 = D := hD
  clear hX hY hD e
  match X, Y, D, t1, t2, t3 with
  | 0, 0, 0, _, _, _ => show 0 = _; split <;> omega
  | 0, 0, 1, _, _, _ => show 1 = _; split <;> omega
  | 0, 1, 0, _, _, _ => show 1 = _; split <;> omega
  | 0, 1, 1, _, _, _ => show 1 = _; split <;> omega
  | 1, 0, 0, _, _, _ => show 0 = _; split <;> omega
  | 1, 0, 1, _, _, _ => show 0 = _; split <;> omega
  | 1, 1, 0, _, _, _ => show 0 = _; split <;> omega
  | 1, 1, 1, _, _, _ => show 1 = _; split <;> omega

theorem sub32_any (x y b : Nat) (w : World) (hx : x < 4294967296) (hy : y < 4294967296) (hb : b ≤ 1) :
    Calls Try.prog 86 #[.int .u32 x, .int .u32 y, .int .u32 b] w fun e w' =>
      e = .returned (.tuple #[.int .u32 ((x + 8589934592 - y - b) % 4294967296 : Nat), .int .u32 (borrow x y b : Nat)]) ∧ w = w' := by
  go_enter Try.func86, Try.ntmps86
  go_wp2
  go_ret2
  have hd : (((x : Int) - (y : Int) - (b : Int)) % 4294967296) = (((x + 8589934592 - y - b) % 4294967296 : Nat) : Int) := by omega
  refine ⟨ret2_int hd ?_, rfl⟩
  have hxy : x ^^^ y < 4294967296 := Nat.xor_lt_two_pow (n := 32) (by omega) (by omega)
  have hnx : 4294967295 ^^^ x < 4294967296 := Nat.xor_lt_two_pow (n := 32) (by omega) (by omega)
  have hnxy : 4294967295 ^^^ (x ^^^ y) < 4294967296 := Nat.xor_lt_two_pow (n := 32) (by omega) (by omega)
  have hdl : (x + 8589934592 - y - b) % 4294967296 < 4294967296 := by omega
  have hm : IntKind.u32.max = ((4294967295 : Nat) : Int) := rfl
  show bits _ _ _ _ / 2147483648 = _
  rw [hd, hm, u32_xor_nat _ _ (by omega) hx, u32_xor_nat _ _ hx hy, u32_and_nat _ _ hnx hy, u32_xor_nat _ _ (by omega) hxy, u32_and_nat _ _ hnxy hdl,
    u32_or_nat _ _ (Nat.lt_of_le_of_lt Nat.and_le_left hnx) (Nat.lt_of_le_of_lt Nat.and_le_left hnxy)]
  have := borrow_bits x y b _ hx hy hb rfl
  omega
end Go.Proofs.Ytnknidfpkmnncaa
