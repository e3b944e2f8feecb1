/- The library's Clone over terms; lists of polynomials in memory. -/
import Derived.Test.YtnknidfpkmnncaaR1
import Derived.WalkSpells
namespace Go.Proofs.Ytnknidfpkmnncaa
open Go.RowKit

/-- What Clone gives: a row of its own with the same terms. -/
def CloneP (L : List TV) (n : Nat) (w : World) (e : Ending) (w' : World) : Prop :=
  ∃ v, e = .returned v ∧ w'.ownsRow w.heap.size 80 6 v n (flat L) ∧ Below w.heap.size w w'
set_option maxRecDepth 100000 in
set_option maxHeartbeats 1000000 in
theorem clone_any (B : Nat) (A : Option Addr) (n c : Nat) (L : List TV) (w : World) (h : Row B 80 w A n c 6 (flat L)) (hn : n ≤ 1073741824) :
    Calls Try.prog 61 #[.slice A n c] w (CloneP L n w) := by
  obtain ⟨i0, hi0, hz0, hz1, hz2⟩ := info_parts terminfo
  cases A with
  | none =>
    have hn0 : n = 0 := by
      rcases Nat.eq_zero_or_pos n with h0 | h0
      · exact h0
      · obtain ⟨ad, e, _⟩ := h.cell h0
        cases e
    subst hn0
    have hL : L = [] := by
      have h1 := h.len
      rw [flat_length] at h1
      exact List.eq_nil_of_length_eq_zero (by omega)
    subst hL
    have hnil : ∀ W : World, (binOp .eql 26 (.slice none 0 c) (.slice none 0 0)).run Try.prog W = .ok (.bool true) W := fun W => Lib.run_eql_slice_nil W 26 80 none 0 c 0 0 Try.underlying26
    go_enter Try.func61, Try.ntmps61
    go_wp2
    go_ret
    exact ⟨_, rfl, World.ownsRow_nil _ _ _ _, Below.refl _ _⟩
  | some ad =>
    have hnil : ∀ W : World, (binOp .eql 26 (.slice (some ad) n c) (.slice none 0 0)).run Try.prog W = .ok (.bool false) W := fun W => Lib.run_eql_slice_nil W 26 80 (some ad) n c 0 0 Try.underlying26
    have hal : Below w.heap.size w (w.alloc (.cells #[] 80)) := (Below.refl _ _).alloc (Nat.le_refl _) _
    have hr := h.below (by omega) hal (Nat.le_refl _)
    have hown0 : (w.alloc (.cells #[] 80)).ownsRow w.heap.size 80 6 (.slice (some ⟨w.heap.size, 0, none⟩) 0 0) 0 [] :=
      ⟨by simp, .inr ⟨w.heap.size, 0, #[], rfl, Nat.le_refl _, heap_alloc_new w _, Nat.le_refl _, by simp [maxLen], by simp, by simp⟩⟩
    go_enter Try.func61, Try.ntmps61
    go_wp2_with (at_builtin; refine wpList_append_row _ rfl _ _ 26 rfl w.heap.size 80 i0 _ 6 64 Try.underlying26 hi0 hz0 hz1 hz2 rfl (by omega) (.slice (some ⟨w.heap.size, 0, none⟩) 0 0) 0 [] rfl hown0 B _ (some ad) n c (flat L) rfl hr (flat_one _) (by simp only [maxLen]; omega) (by omega) (by simp) ?_; intro v1 w1 hown hg _)
    have hown1 := hown
    rw [Nat.zero_add, List.nil_append] at hown1
    have hb1 := hal.grown hg (by simp) (fun k hk => by
      have : w.heap.size = k := by simpa [Value.ownBlock] using hk
      omega)
    clear hown hg
    go_wp2
    go_ret
    exact ⟨_, rfl, hown1, hb1⟩

/-- A cell that holds a polynomial. -/
def PolyCell (B : Nat) (w : World) (u : Value) (al : List Tm) : Prop := ∃ A n c, u = .slice A n c ∧ PolyC B w A n c al
def PRow (B : Nat) (w : World) : List Value → List (List Tm) → Prop
  | [], [] => True
  | u :: us, a :: ps => PolyCell B w u a ∧ PRow B w us ps
  | _, _ => False
theorem PolyCell.below {B : Nat} {w w' : World} {u : Value} {al : List Tm} (h : PolyCell B w u al) (hb : Below w.heap.size w w') : PolyCell B w' u al := by
  obtain ⟨A, n, c, e, hp⟩ := h
  exact ⟨A, n, c, e, hp.below hb (Nat.le_refl _)⟩
theorem PRow.mono {B B' : Nat} {w w' : World} {us : List Value} {ps : List (List Tm)} (h : PRow B w us ps) (hm : ∀ u a, PolyCell B w u a → PolyCell B' w' u a) : PRow B' w' us ps := by
  induction us generalizing ps with
  | nil => cases ps with
    | nil => trivial
    | cons => exact h.elim
  | cons u us ih => cases ps with
    | nil => exact h.elim
    | cons a ps => exact ⟨hm u a h.1, ih h.2⟩
theorem PRow.below {B : Nat} {w w' : World} {us : List Value} {ps : List (List Tm)} (h : PRow B w us ps) (hb : Below w.heap.size w w') : PRow B w' us ps := h.mono fun _ _ hc => hc.below hb
theorem PRow.length {B : Nat} {w : World} {us : List Value} {ps : List (List Tm)} (h : PRow B w us ps) : us.length = ps.length := by
  induction us generalizing ps with
  | nil => cases ps with
    | nil => rfl
    | cons => exact h.elim
  | cons u us ih => cases ps with
    | nil => exact h.elim
    | cons a ps => rw [List.length_cons, List.length_cons, ih h.2]
theorem PRow.append {B : Nat} {w : World} {us vs : List Value} {ps bs : List (List Tm)} (h : PRow B w us ps) (k : PRow B w vs bs) : PRow B w (us ++ vs) (ps ++ bs) := by
  induction us generalizing ps with
  | nil => cases ps with
    | nil => exact k
    | cons => exact h.elim
  | cons u us ih => cases ps with
    | nil => exact h.elim
    | cons a ps => exact ⟨h.1, ih h.2⟩
theorem PRow.at_ {B : Nat} {w : World} {us : List Value} {ps : List (List Tm)} (h : PRow B w us ps) {i : Nat} {a : List Tm} (ha : ps[i]? = some a) : ∃ u, us[i]? = some u ∧ PolyCell B w u a := by
  induction us generalizing ps i with
  | nil => cases ps with
    | nil => simp at ha
    | cons => exact h.elim
  | cons u us ih => cases ps with
    | nil => exact h.elim
    | cons a' ps =>
      cases i with
      | zero => simp at ha; subst ha; exact ⟨u, rfl, h.1⟩
      | succ i => simpa using ih h.2 (by simpa using ha)
theorem PRow.one_ {B : Nat} {w : World} {us : List Value} {ps : List (List Tm)} (h : PRow B w us ps) : ∀ u ∈ us, u.oneCell' = true := by
  induction us generalizing ps with
  | nil => intro u hu; cases hu
  | cons v us ih => cases ps with
    | nil => exact h.elim
    | cons a ps =>
      intro u hu
      rcases List.mem_cons.1 hu with rfl | hu
      · obtain ⟨A, n, c, e, _⟩ := h.1
        rw [e]; rfl
      · exact ih h.2 u hu
theorem PolyC.grownP {B : Nat} {w w' : World} {A : Option Addr} {n c : Nat} {al : List Tm} (h : PolyC B w A n c al) {base m : Nat} {v : Value} {xs : List Value} (hown : w.ownsRow base 26 1 v m xs) (hg : w.grownBy w' v.ownBlock) (hB : B ≤ base) : PolyC B w' A n c al := by
  rcases hown.2 with ⟨rfl, _⟩ | ⟨g, cap, cur, rfl, hb, hh, _⟩
  · exact h.below (B' := w.heap.size) ⟨hg.os, hg.tape, hg.output, hg.size, fun k hk => hg.block k hk (by simp [Value.ownBlock])⟩ (Nat.le_refl _)
  · obtain ⟨L, hP⟩ := h
    exact ⟨L, hP.row.other (by omega) hg (Nat.le_trans hB hb) hh (by decide), hP.reps.mono fun t z _ hr => ⟨hr.1, hr.2.other hg (Nat.le_trans hB hb) hh (by decide)⟩⟩
/-- A list of polynomials that the call appends to. -/
structure PL (B : Nat) (w : World) (pl : List (List Tm)) (v : Value) (us : List Value) (wr : World) : Prop where
  own : wr.ownsRow w.heap.size 26 1 v us.length us
  row : PRow B wr us pl
  below : Below w.heap.size w wr
theorem PL.start (B : Nat) (w : World) : PL B w [] (.slice none 0 0) [] w := ⟨World.ownsRow_nil _ _ _ _, by unfold PRow; trivial, Below.refl _ _⟩
theorem PL.later {B : Nat} {w : World} {pl : List (List Tm)} {v : Value} {us : List Value} {wr w1 : World} (h : PL B w pl v us wr) (hb : Below wr.heap.size wr w1) : PL B w pl v us w1 :=
  ⟨own_below h.own hb, h.row.below hb, h.below.trans (hb.mono h.below.size)⟩
theorem PL.push {B : Nat} {w : World} {pl : List (List Tm)} {v : Value} {us : List Value} {wr w3 : World} {al : List Tm} {A : Option Addr} {n c g cap : Nat} (h : PL B w pl v us wr) (hp : PolyC B wr A n c al)
    (hown : w3.ownsRow w.heap.size 26 1 (.slice (some ⟨g, 0, none⟩) (us.length + 1) cap) (us.length + 1) (us ++ [.slice A n c])) (hg : wr.grownBy w3 v.ownBlock) (hB : B ≤ w.heap.size) :
    PL B w (pl ++ [al]) (.slice (some ⟨g, 0, none⟩) (us.length + 1) cap) (us ++ [.slice A n c]) w3 := by
  refine ⟨by rw [List.length_append]; exact hown, ?_, h.below.grown hg h.below.size (fun k hk => own_base h.own k hk)⟩
  exact (h.row.mono fun u a hc => by
    obtain ⟨A', n', c', e, hp'⟩ := hc
    exact ⟨A', n', c', e, hp'.grownP h.own hg hB⟩).append ⟨⟨A, n, c, rfl, hp.grownP h.own hg hB⟩, trivial⟩
theorem polyinfo : (Try.prog.info? 26).map (fun i => (i.zero, i.size, i.bytes)) = some (some (.slice none 0 0), 1, 24) := by kernel_rfl
end Go.Proofs.Ytnknidfpkmnncaa
