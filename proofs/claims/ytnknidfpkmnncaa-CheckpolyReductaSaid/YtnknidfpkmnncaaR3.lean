/- checkpoly.Reducta. -/
import Derived.Test.YtnknidfpkmnncaaR2
namespace Go.Proofs.Ytnknidfpkmnncaa
open Go.RowKit

/-- The polynomial without the terms of degree d in the variable j. -/
def dropL (j : Nat) (d : Int) (al : List Tm) : List Tm := al.filter fun p => !(ex p.2 j - d == 0)
/-- The reducta, f of them at most. -/
def redl (j : Nat) : Nat → List Tm → List (List Tm)
  | 0, _ => []
  | f + 1, r => if 1 ≤ degL j r then r :: (if levL (coefL j (degL j r) r) = 0 then [] else redl j f (dropL j (degL j r) r)) else []
theorem dropL_canon {j : Nat} {d : Int} {al : List Tm} (h : Canon al) : Canon (dropL j d al) :=
  ⟨h.1.filter _, fun p hp => h.2 p (List.mem_filter.1 hp).1⟩
theorem coefL_canon {j : Nat} {d : Int} {al : List Tm} (hj : j < 4) (h : Canon al) : Canon (coefL j d al) := by
  unfold coefL
  have key : ∀ e f : Ex, ex e j = ex f j → cmpE (zeroE j e) (zeroE j f) = cmpE e f := by
    intro e f he
    match j, hj, he with
    | 0, _, he => simp only [ex] at he; simp [cmpE, cmpTo, ex, zeroE, he]
    | 1, _, he => simp only [ex] at he; simp [cmpE, cmpTo, ex, zeroE, he]
    | 2, _, he => simp only [ex] at he; simp [cmpE, cmpTo, ex, zeroE, he]
    | 3, _, he => simp only [ex] at he; simp [cmpE, cmpTo, ex, zeroE, he]
  constructor
  · rw [List.pairwise_map]
    refine List.Pairwise.imp_of_mem ?_ (h.1.filter _)
    intro p q hp hq hpq
    have h1 := (List.mem_filter.1 hp).2
    have h2 := (List.mem_filter.1 hq).2
    rw [beq_iff_eq] at h1 h2
    rw [key p.2 q.2 (by rw [h1, h2])]
    exact hpq
  · intro p hp
    obtain ⟨q, hq, rfl⟩ := List.mem_map.1 hp
    have h1 := h.2 q (List.mem_filter.1 hq).1
    refine ⟨h1.1, validE_iff.2 fun i hi => ?_⟩
    have h2 := validE_iff.1 h1.2 i hi
    match j, hj, i, hi, h2 with
    | 0, _, 0, _, _ => exact Int.le_refl _
    | 0, _, 1, _, h2 => exact h2
    | 0, _, 2, _, h2 => exact h2
    | 0, _, 3, _, h2 => exact h2
    | 1, _, 0, _, h2 => exact h2
    | 1, _, 1, _, _ => exact Int.le_refl _
    | 1, _, 2, _, h2 => exact h2
    | 1, _, 3, _, h2 => exact h2
    | 2, _, 0, _, h2 => exact h2
    | 2, _, 1, _, h2 => exact h2
    | 2, _, 2, _, _ => exact Int.le_refl _
    | 2, _, 3, _, h2 => exact h2
    | 3, _, 0, _, h2 => exact h2
    | 3, _, 1, _, h2 => exact h2
    | 3, _, 2, _, h2 => exact h2
    | 3, _, 3, _, _ => exact Int.le_refl _
theorem l1_coefL (j : Nat) (d : Int) (al : List Tm) : l1 (coefL j d al) ≤ l1 al := by
  unfold coefL
  have : ∀ l : List Tm, l1 (l.map fun p => (p.1, zeroE j p.2)) = l1 l := by
    intro l
    induction l with
    | nil => rfl
    | cons p l ih => rw [List.map_cons, l1_cons, l1_cons, ih]
  rw [this]
  exact l1_filter _ _
/-- A canonical polynomial that is not 0 has its degree, and loses a term. -/
theorem degL_mem {j : Nat} {al : List Tm} : ∀ {d0 : Int}, al.foldl (fun d p => max (max d 0) (ex p.2 j)) d0 = d0 ∨ al.foldl (fun d p => max (max d 0) (ex p.2 j)) d0 = 0 ∨ ∃ p ∈ al, ex p.2 j = al.foldl (fun d p => max (max d 0) (ex p.2 j)) d0 := by
  induction al with
  | nil => intro d0; left; rfl
  | cons p al ih =>
    intro d0
    rw [List.foldl_cons]
    rcases ih (d0 := max (max d0 0) (ex p.2 j)) with h | h | ⟨q, hq, h⟩
    · rw [h]
      by_cases h1 : max d0 0 ≤ ex p.2 j
      · right; right; exact ⟨p, by simp, by omega⟩
      · by_cases h2 : 0 ≤ d0
        · left; omega
        · right; left; omega
    · right; left; exact h
    · right; right; exact ⟨q, by simp [hq], h⟩
theorem dropL_lt {j : Nat} {al : List Tm} (h : 1 ≤ degL j al) : (dropL j (degL j al) al).length < al.length := by
  have h1 := degL_mem (j := j) (al := al) (d0 := -1)
  have e : al.foldl (fun d p => max (max d 0) (ex p.2 j)) (-1) = degL j al := rfl
  rw [e] at h1
  rcases h1 with h1 | h1 | ⟨p, hp, h1⟩
  · omega
  · omega
  · unfold dropL
    rw [← List.countP_eq_length_filter]
    have h2 := List.length_eq_countP_add_countP (p := fun p : Tm => !(ex p.2 j - degL j al == 0)) (l := al)
    have h3 : 0 < al.countP (fun p => decide ¬((!(ex p.2 j - degL j al == 0)) = true)) := by
      rw [List.countP_pos_iff]
      exact ⟨p, hp, by simp [h1]⟩
    omega

theorem redl_fuel {j : Nat} : ∀ {f g : Nat} {r : List Tm}, r.length ≤ f → r.length ≤ g → redl j f r = redl j g r := by
  intro f
  induction f with
  | zero =>
    intro g r hf hg
    have hr : r = [] := List.eq_nil_of_length_eq_zero (by omega)
    subst hr
    cases g with
    | zero => rfl
    | succ g =>
      rw [redl, redl, if_neg]
      have : degL j [] = -1 := rfl
      omega
  | succ f ih =>
    intro g r hf hg
    cases g with
    | zero =>
      have hr : r = [] := List.eq_nil_of_length_eq_zero (by omega)
      subst hr
      rw [redl, redl, if_neg]
      have : degL j [] = -1 := rfl
      omega
    | succ g =>
      rw [redl, redl]
      by_cases h1 : 1 ≤ degL j r
      · have h2 := dropL_lt h1
        rw [if_pos h1, if_pos h1, ih (g := g) (r := dropL j (degL j r) r) (by omega) (by omega)]
      · rw [if_neg h1, if_neg h1]

/-- What comes back is the list of these polynomials, each in canonical form. -/
def PolysP (B : Nat) (pl : List (List Tm)) (w : World) (e : Ending) (w' : World) : Prop :=
  ∃ A n c us, e = .returned (.slice A n c) ∧ us.length = n ∧ Row w.heap.size 26 w' A n c 1 us ∧ PRow B w' us pl ∧ Below w.heap.size w w'
def sliceLen : Value → Nat
  | .slice _ n _ => n
  | _ => 0

set_option maxRecDepth 100000 in
set_option maxHeartbeats 4000000 in
theorem reducta_any (B j : Nat) (A : Option Addr) (n c : Nat) (al : List Tm) (w : World) (hB : B ≤ w.heap.size) (h : PolyW B w A n c al) (hn : n < sortLim) (hl : l1 al < big) (hj : j < 4) :
    Calls Try.prog 31 #[.slice A n c, .int .i64 ((j : Int) + 1)] w (PolysP B (redl j (nf al).length (nf al)) w) := by
  obtain ⟨i0, hi0, hz0, hz1, hz2⟩ := info_parts polyinfo
  have hnm : n < 1073741824 := by unfold sortLim at hn; omega
  have hal0 : Below w.heap.size w (w.alloc (.cells #[.int .i64 ((j : Int) + 1)] 3)) := (Below.refl _ _).alloc (Nat.le_refl _) _
  have HN := Lib.hid (normalp_new B A n c al (w.alloc (.cells #[.int .i64 ((j : Int) + 1)] 3)) (Nat.le_trans hB hal0.size) (h.below hal0 (Nat.le_refl _)) hn hl)
  have HL := Lib.hid (show (nf al).length ≤ n by have h4 := length_nf al; have h5 := h.len; omega)
  have HLL := Lib.hid (Nat.lt_of_le_of_lt (l1_nf al) hl)
  have HCN := Lib.hid (nf_canon al)
  generalize nf al = a at *
  obtain ⟨p1, hp1⟩ : ∃ p, p = w.heap.size := ⟨_, rfl⟩
  have hcp1 : (w.alloc (.cells #[.int .i64 ((j : Int) + 1)] 3)).cell? ⟨p1, 0, none⟩ = some (.int .i64 ((j : Int) + 1)) := by
    rw [hp1, cell_of_row _ _ 0 _ _ _ (heap_alloc_new w _)]; rfl
  have hp1l : p1 < (w.alloc (.cells #[.int .i64 ((j : Int) + 1)] 3)).heap.size := by rw [hp1]; simp
  obtain ⟨W, hW⟩ : ∃ W, W = (w.alloc (.cells #[.int .i64 ((j : Int) + 1)] 3)) := ⟨_, rfl⟩
  rw [← hW] at HN hal0 hcp1 hp1l
  clear h hl
  go_enter Try.func31, Try.ntmps31
  go_wp2_with fail
  rw [← hW, ← hp1]
  have HW := Lib.hid hW
  have HP1 := Lib.hid hp1
  clear hW hp1
  refine HN.out.mono ?_
  rintro e w1 ⟨A', n', c', rfl, h1, hb1, _⟩
  have hcp1' := (hb1.cell (p := ⟨p1, 0, none⟩) hp1l).trans hcp1
  have hbw := hal0.trans (hb1.mono hal0.size)
  have HLn := Lib.hid (show a.length = n' from h1.len)
  have hp1l' : p1 < w1.heap.size := Nat.lt_of_lt_of_le hp1l hb1.size
  clear hcp1 hb1 hp1l
  go_wp2_with fail
  go_loopw [5, 6] (fun v r wr => ∃ (pl : List (List Tm)) (us : List Value) (A1 : Option Addr) (n1 c1 : Nat) (ra : List Tm), r = .slice A1 n1 c1 ∧ n1 ≤ n' ∧ PL B w1 pl v us wr ∧ PolyC B wr A1 n1 c1 ra ∧ pl.length + n1 ≤ n' ∧ Hid (Canon ra ∧ l1 ra < big ∧ redl j a.length a = pl ++ redl j n1 ra)) (fun _ r _ => sliceLen r)
  case atStart => exact ⟨[], [], A', n', c', a, rfl, Nat.le_refl _, PL.start B w1, h1, by simp, Lib.hid ⟨HCN.out, HLL.out, by rw [HLn.out]; rfl⟩⟩
  case round =>
    obtain ⟨W0, rfl⟩ : ∃ y, y = wr := ⟨_, rfl⟩
    obtain ⟨pl, us, A1, n1, c1, ra, rfl, hn1, hPL, hr, hpl, HV⟩ := hrel
    have hlen := hr.len
    have hn1m : n1 < 1073741824 := by have := HL.out; have := HLn.out; omega
    have hB1 : B ≤ w1.heap.size := Nat.le_trans hB hbw.size
    have hB0 : B ≤ W0.heap.size := Nat.le_trans hB1 hPL.below.size
    have hcq := (hPL.below.cell (p := ⟨p1, 0, none⟩) hp1l').trans hcp1'
    have hNF := Lib.hid (nf_of_canon HV.out.1)
    have HDG := Lib.hid (show ∀ W' : World, Below w1.heap.size w1 W' → PolyC B W' A1 n1 c1 ra → Calls Try.prog 32 #[.slice A1 n1 c1, .int .i64 ((j : Int) + 1)] W' (ValP (.int .i64 (degL j ra)) W') from fun W' hb hp => by
      have h9 := degree_any B j A1 n1 c1 ra W' (Nat.le_trans hB1 hb.size) (hp.wide HV.out.2.1) (by unfold sortLim; omega) HV.out.2.1 hj
      rw [hNF.out] at h9
      exact h9)
    have HLE := Lib.hid hlen
    obtain ⟨d, hd⟩ : ∃ d, d = degL j ra := ⟨_, rfl⟩
    rw [← hd] at HDG
    have HDD := Lib.hid hd
    have hus : us.length ≤ 1073741824 := by have := hPL.row.length; have := HL.out; have := HLn.out; omega
    clear hd hlen
    by_cases hd1 : 1 ≤ d
    · have hpos : 0 < n1 := by
        have h8 := dropL_lt (j := j) (al := ra) (by rw [← HDD.out]; exact hd1)
        have := HLE.out
        omega
      go_wp2_with fail
      refine (HDG.out _ hPL.below hr).mono ?_
      rintro e w2 ⟨rfl, hb2⟩
      have hPL2 := hPL.later hb2
      have hr2 := hr.below hb2 (Nat.le_refl _)
      have hcq2 := (hb2.cell (p := ⟨p1, 0, none⟩) (World.block_lt_of_cell? _ _ hcq)).trans hcq
      clear hPL hr hb2 hcq
      have hal2 : Below w2.heap.size w2 (w2.alloc (.cells #[.slice A1 n1 c1] 26)) := (Below.refl _ _).alloc (Nat.le_refl _) _
      have hPL3 := hPL2.later hal2
      have hr3 := hr2.below hal2 (Nat.le_refl _)
      have hsz : w1.heap.size ≤ w2.heap.size := hPL2.below.size
      go_wp2_with (at_builtin; refine wpList_append_lies _ rfl _ _ _ rfl w1.heap.size 26 i0 _ 1 24 Try.underlying38 hi0 hz0 hz1 hz2 rfl (by omega) u5 us.length us rfl hPL3.own ⟨w2.heap.size, 0, none⟩ 1 1 [.slice A1 n1 c1] rfl rfl (World.news_of_block (cs := #[.slice A1 n1 c1]) (t := 26) (fr := (0, 0)) (heap_alloc_new w2 _)) (by intro u hu; rw [List.mem_singleton.1 hu]; rfl) (by omega) (by simp only [maxLen]; omega) (by omega) (by simp; omega) (w2.heap.size + 1) (by simp) ?_; intro gg cap w3 hown3 hgrow hat hlt3; have hPL4 := hPL3.push hr3 hown3 hgrow hB1; have hr4 := hr3.grownP hPL3.own hgrow hB1; have hcq3 := (hPL4.below.cell (p := ⟨p1, 0, none⟩) hp1l').trans hcp1')
      refine (HDG.out _ hPL4.below hr4).mono ?_
      rintro e w4 ⟨rfl, hb4⟩
      have hal4 : Below w4.heap.size w4 (w4.alloc (.cells #[.int .i64 d] 3)) := (Below.refl _ _).alloc (Nat.le_refl _) _
      have hPL5 := (hPL4.later hb4).later hal4
      have hr5 := (hr4.below hb4 (Nat.le_refl _)).below hal4 (Nat.le_refl _)
      have hcq5 := (hPL5.below.cell (p := ⟨p1, 0, none⟩) hp1l').trans hcp1'
      have hcd5 : (w4.alloc (.cells #[.int .i64 d] 3)).cell? ⟨w4.heap.size, 0, none⟩ = some (.int .i64 d) := by rw [cell_of_row _ _ 0 _ _ _ (heap_alloc_new w4 _)]; rfl
      obtain ⟨p2, hp2⟩ : ∃ p, p = w4.heap.size := ⟨_, rfl⟩
      obtain ⟨W5, hW5⟩ : ∃ y, y = (w4.alloc (.cells #[.int .i64 d] 3)) := ⟨_, rfl⟩
      have hp2l : p2 < W5.heap.size := by rw [hW5, hp2]; simp
      rw [← hW5, ← hp2] at hcd5
      rw [← hW5] at hcq5 hPL5 hr5
      clear hPL2 hPL3 hPL4 hr2 hr3 hr4 hown3 hgrow hat hb4 hal4 hal2 hcq2 hcq3
      have HCO := Lib.hid (coef_any B j A1 n1 c1 ra d W5 (Nat.le_trans hB1 hPL5.below.size) (hr5.wide HV.out.2.1) (by unfold sortLim; omega) HV.out.2.1 hj)
      rw [hNF.out] at HCO
      go_upto_region 6 with (fail)
      rw [← hW5, ← hp2]
      clear hW5 hp2
      go_wp2_with fail
      refine HCO.out.mono ?_
      rintro e w6 ⟨A6, n6, c6, rfl, h6, hb6⟩
      have hlc : l1 (coefL j d ra) < big := Nat.lt_of_le_of_lt (l1_coefL j d ra) HV.out.2.1
      have hn6 : n6 ≤ n1 := by have h8 := h6.len; have h9 := coefL_len j d ra; have := HLE.out; omega
      have HK := Lib.hid (constant_any B A6 n6 c6 (coefL j d ra) w6 (Nat.le_trans hB1 (hPL5.later hb6).below.size) (h6.wide hlc) (by unfold sortLim; omega) hlc)
      rw [nf_of_canon (coefL_canon hj HV.out.1)] at HK
      have hPL6 := hPL5.later hb6
      have hr6 := hr5.below hb6 (Nat.le_refl _)
      have hcd6 := (hb6.cell (p := ⟨p2, 0, none⟩) hp2l).trans hcd5
      have hp2l6 : p2 < w6.heap.size := Nat.lt_of_lt_of_le hp2l hb6.size
      clear hPL5 hr5 hb6 hcd5 hcq5 HCO h6 hlc hp2l
      by_cases hlev : levL (coefL j d ra) = 0
      · have hdl : decide (levL (coefL j d ra) = 0) = true := decide_eq_true hlev
        have HRE := Lib.hid (show redl j a.length a = pl ++ [ra] by
          rw [HV.out.2.2]
          obtain ⟨q, rfl⟩ : ∃ q, n1 = q + 1 := ⟨n1 - 1, by omega⟩
          rw [redl, ← HDD.out, if_pos hd1, if_pos hlev])
        clear hlev
        go_wp2_with fail
        refine HK.out.mono ?_
        rw [hdl]
        rintro e w7 ⟨rfl, hb7⟩
        have HPL7 := Lib.hid (hPL6.later hb7)
        clear hPL6 hr6 hb7 hcd6 HK
        go_wp2
        go_ret
        exact ⟨_, _, _, us ++ [.slice A1 n1 c1], rfl, by simp, by have h9 := HPL7.out.own; rw [List.length_append] at h9; exact Row.of_own h9, by rw [HRE.out]; exact HPL7.out.row, hbw.trans (HPL7.out.below.mono hbw.size)⟩
      · have hdl : decide (levL (coefL j d ra) = 0) = false := decide_eq_false hlev
        have HRE := Lib.hid (show redl j a.length a = (pl ++ [ra]) ++ redl j (n1 - 1) (dropL j d ra) by
          rw [HV.out.2.2]
          obtain ⟨q, rfl⟩ : ∃ q, n1 = q + 1 := ⟨n1 - 1, by omega⟩
          rw [redl, ← HDD.out, if_pos hd1, if_neg hlev]
          simp)
        have HDL := Lib.hid (show (dropL j d ra).length ≤ n1 - 1 by
          have h8 := dropL_lt (j := j) (al := ra) (by rw [← HDD.out]; exact hd1)
          rw [← HDD.out] at h8
          have := HLE.out
          omega)
        clear hlev
        go_wp2_with fail
        refine HK.out.mono ?_
        rw [hdl]
        rintro e w7 ⟨rfl, hb7⟩
        have hPL7 := hPL6.later hb7
        have hr7 := hr6.below hb7 (Nat.le_refl _)
        have hcd7 := (hb7.cell (p := ⟨p2, 0, none⟩) hp2l6).trans hcd6
        have hcq7 := (hPL7.below.cell (p := ⟨p1, 0, none⟩) hp1l').trans hcp1'
        have hp2l7 : p2 < w7.heap.size := Nat.lt_of_lt_of_le hp2l6 hb7.size
        clear hPL6 hr6 hb7 hcd6 hp2l6 HK
        have hs7 : w1.heap.size ≤ w7.heap.size := hPL7.below.size
        obtain ⟨L, hP⟩ := hr7
        go_wp2_with fail
        refine (clone_any B A1 n1 c1 L w7 hP.row (by omega)).mono ?_
        rintro e w8 ⟨v8, rfl, hown8, hb8⟩
        obtain ⟨g8, cap8, rfl, hg8, hg8l⟩ := hown8.form hpos
        have hT8 := Terms.of_own hown8
        have hcap8 := (Row.of_own (B := B) hown8).cap
        have hbd8 := (Row.of_own (B := B) hown8).bd
        have hrep8 := hP.reps.mono (R' := CoefC B w8) fun t z _ hr => hr.below hb8 (Nat.le_refl _)
        have hR8 : RedOk w8 p1 p2 j d := (RedOk.mk hcq7 hcd7).below hb8
        have HDE := Lib.hid (deleteR_any p1 p2 j d hj (rc j d) rfl g8 cap8 n1 L w8 (by omega) (by omega) hT8 hP.lenL hcap8 hbd8 (by omega) hR8)
        have HTY := Lib.hid hT8.ty
        have HLn1 := Lib.hid hP.lenL
        clear hown8 hT8 hR8 hcd7 hcq7 hP
        go_wp2_with fail
        refine HDE.out.mono ?_
        rintro e w9 ⟨rfl, hT9, hO9⟩
        have hb79 : Below w7.heap.size w7 w9 := hb8.grown hO9 hb8.size (fun k hk => by injection hk with hk; omega)
        have hPL9 := hPL7.later hb79
        have hBg : B ≤ g8 := by omega
        have hrep9 := (hrep8.filter (f := fun t => !(rc j d t == 0)) (g := fun p => !(ex p.2 j - d == 0)) fun t p _ he _ => by unfold rc; rw [he]).mono (R' := CoefC B w9) fun t z _ hr => hr.only hO9 hBg HTY.out (by decide)
        have hkl : (keep (rc j d) L).length ≤ n1 - 1 := by have h8 : (keep (rc j d) L).length = (dropL j d ra).length := hrep9.length; have := HDL.out; omega
        have hr9 : PolyC B w9 (some ⟨g8, 0, none⟩) (keep (rc j d) L).length cap8 (dropL j d ra) := ⟨keep (rc j d) L, Row.of_terms hT9 rfl (by omega) hbd8, hrep9⟩
        have HV9 := Lib.hid (show Canon (dropL j d ra) ∧ l1 (dropL j d ra) < big ∧ redl j a.length a = (pl ++ [ra]) ++ redl j (keep (rc j d) L).length (dropL j d ra) from
          ⟨dropL_canon HV.out.1, Nat.lt_of_le_of_lt (l1_filter _ _) HV.out.2.1, by rw [HRE.out, redl_fuel (f := n1 - 1) (g := (keep (rc j d) L).length) HDL.out (Nat.le_of_eq hrep9.length.symm)]⟩)
        clear hPL7 hT9 hO9 hb79 hrep8 hrep9 hb8
        generalize (keep (rc j d) L).length = n9 at *
        go_wp2
        go_roundw
        case rel => exact ⟨pl ++ [ra], us ++ [.slice A1 n1 c1], some ⟨g8, 0, none⟩, n9, cap8, dropL j d ra, rfl, by omega, hPL9, hr9, by simp; omega, HV9⟩
        case measure => simp [sliceLen]; omega
    · have HRE := Lib.hid (show redl j a.length a = pl by
        rw [HV.out.2.2]
        cases n1 with
        | zero => rw [redl, List.append_nil]
        | succ q => rw [redl, ← HDD.out, if_neg hd1, List.append_nil])
      go_wp2_with fail
      refine (HDG.out _ hPL.below hr).mono ?_
      rintro e w2 ⟨rfl, hb2⟩
      have HPL7 := Lib.hid (hPL.later hb2)
      obtain ⟨A9, c9, rfl⟩ := own_slice hPL.own
      clear hPL hr hb2 hcq
      go_wp2
      go_ret
      exact ⟨_, _, _, us, rfl, rfl, Row.of_own HPL7.out.own, by rw [HRE.out]; exact HPL7.out.row, hbw.trans (HPL7.out.below.mono hbw.size)⟩
end Go.Proofs.Ytnknidfpkmnncaa
