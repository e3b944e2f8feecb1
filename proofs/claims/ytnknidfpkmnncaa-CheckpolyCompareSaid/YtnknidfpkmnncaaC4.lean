/- The stable sort of the library over fewer than twenty terms. -/
import Derived.Test.YtnknidfpkmnncaaC3
namespace Go.Proofs.Ytnknidfpkmnncaa
open Go.RowKit

set_option maxRecDepth 100000 in
set_option maxHeartbeats 1000000 in
theorem stable_small (g cap n : Nat) (M : List TV) (w : World) (h : Terms w g M) (hn : M.length = n) (hcap : n ≤ cap) (hbd : cap ≤ 9223372036854775807) (hnb : n ≤ 1099511627776) (h20 : n < 20) :
    Calls Try.prog 70 #[.slice (some ⟨g, 0, none⟩) n cap, .int .i64 n, .func (.func 46) #[] #[]] w (SortP g [] M [] w) := by
  have hI := Lib.hid (insertion_any g cap 0 n n [] M [] w (by simpa using h) (by simpa using hn) rfl (by simpa using hn) hcap hbd hnb)
  go_enter Try.func70, Try.ntmps70
  go_wp2
  go_loop [7, 8] (fun a i => a = .int .i64 0 ∧ i = .int .i64 20) (fun _ _ => 0)
  case atStart => exact ⟨rfl, rfl⟩
  case round =>
    obtain ⟨rfl, rfl⟩ := hrel
    go_wp2_with fail
    refine hI.out.mono ?_
    rintro e w1 ⟨rfl, h1⟩
    have H1 := Lib.hid h1
    clear h1
    go_wp2
    go_loop [6] (fun i => i = .int .i64 20) (fun _ => 0)
    case atStart => rfl
    case round =>
      obtain rfl := hrel
      go_wp2
      go_end0
      exact ⟨rfl, H1.out⟩

/-- How many terms the sort's contract speaks of. -/
def sortLim : Nat := 20
theorem sort_any (g cap n : Nat) (M : List TV) (w : World) (h : Terms w g M) (hn : M.length = n) (hcap : n ≤ cap) (hbd : cap ≤ 9223372036854775807) (hnb : n ≤ 1099511627776) (h20 : n < sortLim) :
    Calls Try.prog 45 #[.slice (some ⟨g, 0, none⟩) n cap, .func (.func 46) #[] #[]] w (SortP g [] M [] w) := by
  have hS := Lib.hid (stable_small g cap n M w h hn hcap hbd hnb h20)
  go_enter Try.func45, Try.ntmps45
  go_wp2_with fail
  refine hS.out.mono ?_
  rintro e w1 ⟨rfl, h1⟩
  go_wp2
  go_end0
  exact ⟨rfl, h1⟩

theorem insertion_nil (w : World) :
    Calls Try.prog 83 #[.slice none 0 0, .int .i64 0, .int .i64 0, .func (.func 46) #[] #[]] w fun e w' => e = .returned (.tuple #[]) ∧ w = w' := by
  go_enter Try.func83, Try.ntmps83
  go_wp2
  go_loop [8] (fun i => i = .int .i64 1) (fun _ => 0)
  case atStart => rfl
  case round =>
    obtain rfl := hrel
    go_wp2
    go_end0
    exact ⟨rfl, rfl⟩
theorem stable_nil (w : World) :
    Calls Try.prog 70 #[.slice none 0 0, .int .i64 0, .func (.func 46) #[] #[]] w fun e w' => e = .returned (.tuple #[]) ∧ w = w' := by
  go_enter Try.func70, Try.ntmps70
  go_wp2
  go_loop [7, 8] (fun a i => a = .int .i64 0 ∧ i = .int .i64 20) (fun _ _ => 0)
  case atStart => exact ⟨rfl, rfl⟩
  case round =>
    obtain ⟨rfl, rfl⟩ := hrel
    go_wp2_with fail
    refine (insertion_nil _).mono ?_
    rintro e w1 ⟨rfl, rfl⟩
    go_wp2
    go_loop [6] (fun i => i = .int .i64 20) (fun _ => 0)
    case atStart => rfl
    case round =>
      obtain rfl := hrel
      go_wp2
      go_end0
      exact ⟨rfl, rfl⟩
theorem sort_nil (w : World) :
    Calls Try.prog 45 #[.slice none 0 0, .func (.func 46) #[] #[]] w fun e w' => e = .returned (.tuple #[]) ∧ w = w' := by
  go_enter Try.func45, Try.ntmps45
  go_wp2_with fail
  refine (stable_nil _).mono ?_
  rintro e w1 ⟨rfl, rfl⟩
  go_wp2
  go_end0
  exact ⟨rfl, rfl⟩
end Go.Proofs.Ytnknidfpkmnncaa
