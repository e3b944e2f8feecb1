/- The stable sort of the library, as Normal calls it. -/
import Derived.Test.YtnknidfpkmnncaaS5
namespace Go.Proofs.Ytnknidfpkmnncaa
open Go.RowKit

/-- How many terms the sort's contract speaks of. -/
def sortLim : Nat := 1073741824
theorem sort_any (g cap n : Nat) (M : List TV) (w : World) (h : Terms w g M) (hn : M.length = n) (hcap : n ≤ cap) (hbd : cap ≤ 9223372036854775807) (hnb : n ≤ 1099511627776) (h20 : n < sortLim) :
    Calls Try.prog 45 #[.slice (some ⟨g, 0, none⟩) n cap, .func (.func 46) #[] #[]] w (SortP g [] M [] w) := by
  have hS := Lib.hid (stable_any g cap n M w h hn hcap hbd hnb)
  go_enter Try.func45, Try.ntmps45
  go_wp2_with fail
  refine hS.out.mono ?_
  rintro e w1 ⟨rfl, h1⟩
  go_wp2
  go_end0
  exact ⟨rfl, h1⟩

theorem insertion_nil (w : World) :
    Calls Try.prog 83 #[.slice none 0 0, .int .i64 0, .int .i64 0, .func (.func 46) #[] #[]] w fun e w' => e = .returned (.tuple #[]) ∧ w = w' := by
  go_enter Try.func83, Try.ntmps83
  go_wp2
  go_loop [8] (fun i => i = .int .i64 1) (fun _ => 0)
  case atStart => rfl
  case round =>
    obtain rfl := hrel
    go_wp2
    go_end0
    exact ⟨rfl, rfl⟩
theorem stable_nil (w : World) :
    Calls Try.prog 70 #[.slice none 0 0, .int .i64 0, .func (.func 46) #[] #[]] w fun e w' => e = .returned (.tuple #[]) ∧ w = w' := by
  go_enter Try.func70, Try.ntmps70
  go_wp2
  go_loop [7, 8] (fun a i => a = .int .i64 0 ∧ i = .int .i64 20) (fun _ _ => 0)
  case atStart => exact ⟨rfl, rfl⟩
  case round =>
    obtain ⟨rfl, rfl⟩ := hrel
    go_wp2_with fail
    refine (insertion_nil _).mono ?_
    rintro e w1 ⟨rfl, rfl⟩
    go_wp2
    go_loop [6] (fun i => i = .int .i64 20) (fun _ => 0)
    case atStart => rfl
    case round =>
      obtain rfl := hrel
      go_wp2
      go_end0
      exact ⟨rfl, rfl⟩
theorem sort_nil (w : World) :
    Calls Try.prog 45 #[.slice none 0 0, .func (.func 46) #[] #[]] w fun e w' => e = .returned (.tuple #[]) ∧ w = w' := by
  go_enter Try.func45, Try.ntmps45
  go_wp2_with fail
  refine (stable_nil _).mono ?_
  rintro e w1 ⟨rfl, rfl⟩
  go_wp2
  go_end0
  exact ⟨rfl, rfl⟩
end Go.Proofs.Ytnknidfpkmnncaa
