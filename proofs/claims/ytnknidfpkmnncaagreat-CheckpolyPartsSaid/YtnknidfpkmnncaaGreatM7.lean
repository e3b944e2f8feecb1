/- F6, W4, W5, W6, W7. -/
import Derived.Test.YtnknidfpkmnncaaGreatM6
/- The law's Canonical, is, num. -/
namespace Go.Proofs.YtnknidfpkmnncaaGreat
open Go.RowKit

/-- The cells that Canonical's test reads at the first term. -/
abbrev HeldQ (w' : World) (g b o : Nat) (neg : Bool) (A : Option Addr) (n c : Nat) (A2 : Option Addr) (n2 c2 : Nat) : Prop :=
  w'.cell? ⟨g, 0, none⟩ = some (.bool neg) ∧ w'.cell? ⟨g, 1, none⟩ = some (.slice A n c) ∧ w'.cell? ⟨b, o, none⟩ = some (.bool neg) ∧ w'.cell? ⟨b, o + 1, none⟩ = some (.slice A2 n2 c2)
theorem heldQ_below {w w' : World} {g b o : Nat} {neg : Bool} {A : Option Addr} {n c : Nat} {A2 : Option Addr} {n2 c2 : Nat} (h : HeldQ w g b o neg A n c A2 n2 c2) (hb : Below w.heap.size w w') (hg : g < w.heap.size) (hlt : b < w.heap.size) : HeldQ w' g b o neg A n c A2 n2 c2 := by
  obtain ⟨hc, _⟩ := bcell hb
  unfold HeldQ
  rw [hc _ _ hg, hc _ _ hg, hc _ _ hlt, hc _ _ hlt]
  exact h

set_option maxRecDepth 100000 in
set_option maxHeartbeats 4000000 in
theorem canonical_any (B : Nat) (A : Option Addr) (n c : Nat) (al : List Tm) (w : World) (hB : B ≤ w.heap.size) (h : PolyC B w A n c al) (hn : n ≤ 1073741824) (hC : Canon al) (hl : l1 al < big) :
    Calls Tryz.prog 16 #[.slice A n c] w (ValP (.bool true) w) := by
  have hcap := h.cap
  have HC := Lib.hid hC
  have HL := Lib.hid hl
  clear hC hl
  go_enter Tryz.func16, Tryz.ntmps16
  go_wp2_with fail
  go_loopw [3] (fun i wr => ∃ k : Nat, k ≤ n ∧ i = .int .i64 k ∧ Below w.heap.size w wr) (fun i _ => n - (intOf i).toNat)
  case atStart => exact ⟨0, Nat.zero_le _, rfl, Below.refl _ _⟩
  case round =>
    obtain ⟨W0, rfl⟩ : ∃ y, y = wr := ⟨_, rfl⟩
    obtain ⟨k, hk, rfl, hb⟩ := hrel
    by_cases hkn : k < n
    · obtain ⟨b, off, rfl, hs1, HT⟩ := h.term (by omega)
      obtain ⟨t, p, hp, hte, hcf, hh2, hh4⟩ := HT k hkn
      have hbw := hb.size
      obtain ⟨c0, c1⟩ := held2_below hh2 hb hs1
      have hcf2 := hcf.below hb (Nat.le_refl _)
      have HCW := Lib.hid (hcf2.wide (Nat.lt_of_le_of_lt (l1_mem (List.mem_of_getElem? hp)) HL.out))
      have hlen := hcf2.2.len
      rw [hcf2.1] at c0
      have hmem := List.mem_of_getElem? hp
      have HV := Lib.hid (validE_iff.1 (HC.out.2 p hmem).2)
      have HZ := Lib.hid (HC.out.2 p hmem).1
      have HTE := Lib.hid hte
      have HP := Lib.hid hp
      have i0 : (0 : Int) ≤ (k : Int) := by omega
      have i1 : (k : Int) < (n : Int) := by omega
      have hq0 := Lib.hid (held4_below hh4 hb hs1)
      have HHT := Lib.hid HT
      have HCX := Lib.hid (show ∀ W : World, Below w.heap.size w W → ∀ j, j < 4 → W.cell? ⟨b, off + k * 6 + 2 + j, none⟩ = some (.int .i64 (ex p.2 j)) from fun W hbW j hj => by
        rw [← hte]
        have h9 := held4_below hh4 hbW hs1
        match j, hj with
        | 0, _ => exact h9.1
        | 1, _ => exact h9.2.1
        | 2, _ => exact h9.2.2.1
        | 3, _ => exact h9.2.2.2)
      have HNL := Lib.hid hlen
      have HNEG := Lib.hid hcf2.1
      clear HT hcf hh2 hte hlen hmem hp hh4
      have HNO := Lib.hid (show Calls Tryz.prog 27 #[.agg #[.bool (decide (p.1 < 0)), .slice t.A t.n t.c]] W0 (IntP B p.1 W0) by
        have h9 := inormal_any B (decide (p.1 < 0)) t.A t.n t.c _ W0 (Nat.le_trans hB hbw) hcf2.2 HCW.out.2
        rw [iv_digs] at h9
        exact h9)
      clear hcf2
      go_wp2_with fail
      refine HNO.out.mono ?_
      rintro e w1 ⟨A1, n1, ca, rfl, h1, hb1⟩
      have hn1 : n1 = t.n := by rw [← h1.len]; exact HNL.out
      subst hn1
      have hal : Below w1.heap.size w1 (w1.alloc (.cells #[.bool (decide (p.1 < 0)), .slice A1 t.n ca] 53)) := (Below.refl _ _).alloc (Nat.le_refl _) _
      have hb2 := hb1.trans (hal.mono hb1.size)
      have hI := IBox.new (z := p.1) h1
      obtain ⟨g, hg⟩ : ∃ g, g = w1.heap.size := ⟨_, rfl⟩
      obtain ⟨W2, hW2⟩ : ∃ W2, W2 = (w1.alloc (.cells #[.bool (decide (p.1 < 0)), .slice A1 t.n ca] 53)) := ⟨_, rfl⟩
      have q0 : W2.cell? ⟨g, 0, none⟩ = some (.bool (decide (p.1 < 0))) := by rw [hW2, hg, cell_of_row _ _ 0 _ _ _ (heap_alloc_new w1 _)]; rfl
      have q1 : W2.cell? ⟨g, 1, none⟩ = some (.slice A1 t.n ca) := by rw [hW2, hg, cell_of_row _ _ 1 _ _ _ (heap_alloc_new w1 _)]; rfl
      have hgl : g < W2.heap.size := by rw [hW2, hg]; simp
      have hdw := h1.below hal (Nat.le_refl _)
      rw [← hW2] at hb2 hdw
      have hbl : b < W0.heap.size := Nat.lt_of_lt_of_le hs1 hbw
      have hb3 := hb.trans (hb2.mono hbw)
      have c0' := (hb2.cell (p := ⟨b, off + k * 6, none⟩) hbl).trans c0
      have c1' := (hb2.cell (p := ⟨b, off + k * 6 + 1, none⟩) hbl).trans c1
      have hbl2 : b < W2.heap.size := Nat.lt_of_lt_of_le hbl hb2.size
      go_upto_region 5 with (fail)
      rw [← hg, ← hW2]
      clear hW2 hg hI hal hb1 h1 c0 c1
      have hS0 : HeldQ W2 g b (off + k * 6) (decide (p.1 < 0)) A1 t.n ca t.A t.n t.c := ⟨q0, q1, c0', c1'⟩
      have hS1 : HeldQ W2.drew g b (off + k * 6) (decide (p.1 < 0)) A1 t.n ca t.A t.n t.c := hS0
      have hdd := hdw.drew
      have hsg : (p.1.sign == 0) = false := by
        rw [beq_eq_false_iff_ne]; exact fun e => HZ.out (Int.sign_eq_zero_iff_zero.1 e)
      have HSG := Lib.hid (show (iv (decide (p.1 < 0)) (val (digs p.1.natAbs))).sign = p.1.sign by rw [iv_digs])
      have hnn : ((t.n : Int) != (t.n : Int)) = false := by simp
      have hbb : (decide (p.1 < 0) != decide (p.1 < 0)) = false := by simp
      clear q0 q1 c0' c1' hdw
      rcases Nat.eq_zero_or_pos k with hk0 | hk0
      · have hg0 : decide ((0 : Int) < (k : Int)) = false := by rw [decide_eq_false_iff_not]; omega
        have hg1 : decide (0 < k) = false := by rw [decide_eq_false_iff_not]; omega
        clear hk0
        refine wp_region_held_drew (S := fun w' => HeldQ w' g b (off + k * 6) (decide (p.1 < 0)) A1 t.n ca t.A t.n t.c) (by kernel_rfl) hS1 (fun hHeld => ?_)
        first | (refine wpAnyH_take (i := 0) (oi := ({ dst := some 18, op := Op.load 53 (Operand.tmp 4), type := 53, pos := "law.go:48", after := #[], guard := none } : Oper)) (v := ?v0) rfl (by kernel_rfl) (by kernel_rfl) (by kernel_rfl) (fun _ _ _ h => h) (Or.inl ⟨by rfl, ?hy0⟩) (by assumption) ?rest0; case hy0 => ((intro w' hSw); (try dsimp only at hSw); go_simp; (try with_reducible rfl))) | fail
        (try simp only [Act.put, List.setIfInBounds_toArray, List.set_cons_zero, List.set_cons_succ])
        refine wpAnyH_ready (rs := [1]) (by kernel_rfl) (by simp) ?_
        refine AllReadyH.cons (o := ({ dst := some 19, op := Op.call { callee := Callee.value (Operand.func 34), args := #[Operand.tmp 18], argTypes := #[53] }, type := 3, pos := "law.go:48", after := #[{ on := 0, ground := Ground.data }], guard := none } : Oper)) rfl (fun K hK => ?_) AllReadyH.nil
        go_simp
        refine (isign_any B _ _ _ _ _ _ hdd).mono ?_
        rw [HSG.out]
        rintro e w5 ⟨rfl, hb5⟩
        have hS5 := heldQ_below hS1 hb5 hgl hbl2
        go_wp2_with fail
        refine hK.out _ _ hS5 (fun hHeld2 => ?_)
        clear hK K hHeld
        (try simp only [Act.put, List.setIfInBounds_toArray, List.set_cons_zero, List.set_cons_succ])
        first | (refine wpAnyH_take (i := 2) (oi := ({ dst := some 20, op := Op.binOp BinOp.eql 3 (Operand.tmp 19) (Operand.const (Value.int IntKind.i64 0)) 3, type := 4, pos := "law.go:48", after := #[{ on := 1, ground := Ground.data }], guard := none } : Oper)) (v := ?v2) rfl (by kernel_rfl) (by kernel_rfl) (by kernel_rfl) (fun _ _ _ h => h) (Or.inl ⟨by rfl, ?hy2⟩) (by assumption) ?rest2; case hy2 => ((intro w' hSw); (try dsimp only at hSw); go_simp; (try with_reducible rfl))) | (refine wpAnyH_take (i := 2) (oi := ({ dst := some 20, op := Op.binOp BinOp.eql 3 (Operand.tmp 19) (Operand.const (Value.int IntKind.i64 0)) 3, type := 4, pos := "law.go:48", after := #[{ on := 1, ground := Ground.data }], guard := none } : Oper)) (v := undef) rfl (by kernel_rfl) (by kernel_rfl) (by kernel_rfl) (fun _ _ _ h => h) (Or.inr ⟨by rfl, rfl⟩) (by assumption) ?_)
        (try simp only [Act.put, List.setIfInBounds_toArray, List.set_cons_zero, List.set_cons_succ])
        first | (refine wpAnyH_take (i := 3) (oi := ({ dst := some 21, op := Op.move (Operand.tmp 20), type := 4, pos := "law.go:48", after := #[{ on := 2, ground := Ground.data }, { on := 1, ground := Ground.chain }], guard := none } : Oper)) (v := ?v3) rfl (by kernel_rfl) (by kernel_rfl) (by kernel_rfl) (fun _ _ _ h => h) (Or.inl ⟨by rfl, ?hy3⟩) (by assumption) ?rest3; case hy3 => ((intro w' hSw); (try dsimp only at hSw); go_simp; (try with_reducible rfl))) | (refine wpAnyH_take (i := 3) (oi := ({ dst := some 21, op := Op.move (Operand.tmp 20), type := 4, pos := "law.go:48", after := #[{ on := 2, ground := Ground.data }, { on := 1, ground := Ground.chain }], guard := none } : Oper)) (v := undef) rfl (by kernel_rfl) (by kernel_rfl) (by kernel_rfl) (fun _ _ _ h => h) (Or.inr ⟨by rfl, rfl⟩) (by assumption) ?_)
        (try simp only [Act.put, List.setIfInBounds_toArray, List.set_cons_zero, List.set_cons_succ])
        first | (refine wpAnyH_take (i := 4) (oi := ({ dst := some 22, op := Op.fieldAddr 53 (Operand.tmp 4) 0, type := 0, pos := "law.go:48", after := #[{ on := 3, ground := Ground.guard }], guard := some (3, false) } : Oper)) (v := ?v4) rfl (by kernel_rfl) (by kernel_rfl) (by kernel_rfl) (fun _ _ _ h => h) (Or.inl ⟨by rfl, ?hy4⟩) (by assumption) ?rest4; case hy4 => ((intro w' hSw); (try dsimp only at hSw); go_simp; (try with_reducible rfl))) | (refine wpAnyH_take (i := 4) (oi := ({ dst := some 22, op := Op.fieldAddr 53 (Operand.tmp 4) 0, type := 0, pos := "law.go:48", after := #[{ on := 3, ground := Ground.guard }], guard := some (3, false) } : Oper)) (v := undef) rfl (by kernel_rfl) (by kernel_rfl) (by kernel_rfl) (fun _ _ _ h => h) (Or.inr ⟨by rfl, rfl⟩) (by assumption) ?_)
        (try simp only [Act.put, List.setIfInBounds_toArray, List.set_cons_zero, List.set_cons_succ])
        first | (refine wpAnyH_take (i := 5) (oi := ({ dst := some 23, op := Op.load 4 (Operand.tmp 22), type := 4, pos := "law.go:48", after := #[{ on := 4, ground := Ground.data }, { on := 3, ground := Ground.guard }], guard := some (3, false) } : Oper)) (v := ?v5) rfl (by kernel_rfl) (by kernel_rfl) (by kernel_rfl) (fun _ _ _ h => h) (Or.inl ⟨by rfl, ?hy5⟩) (by assumption) ?rest5; case hy5 => ((intro w' hSw); (try dsimp only at hSw); go_simp; (try with_reducible rfl))) | (refine wpAnyH_take (i := 5) (oi := ({ dst := some 23, op := Op.load 4 (Operand.tmp 22), type := 4, pos := "law.go:48", after := #[{ on := 4, ground := Ground.data }, { on := 3, ground := Ground.guard }], guard := some (3, false) } : Oper)) (v := undef) rfl (by kernel_rfl) (by kernel_rfl) (by kernel_rfl) (fun _ _ _ h => h) (Or.inr ⟨by rfl, rfl⟩) (by assumption) ?_)
        (try simp only [Act.put, List.setIfInBounds_toArray, List.set_cons_zero, List.set_cons_succ])
        first | (refine wpAnyH_take (i := 6) (oi := ({ dst := some 24, op := Op.move (Operand.tmp 0), type := 27, pos := "law.go:48", after := #[{ on := 3, ground := Ground.guard }], guard := some (3, false) } : Oper)) (v := ?v6) rfl (by kernel_rfl) (by kernel_rfl) (by kernel_rfl) (fun _ _ _ h => h) (Or.inl ⟨by rfl, ?hy6⟩) (by assumption) ?rest6; case hy6 => ((intro w' hSw); (try dsimp only at hSw); go_simp; (try with_reducible rfl))) | (refine wpAnyH_take (i := 6) (oi := ({ dst := some 24, op := Op.move (Operand.tmp 0), type := 27, pos := "law.go:48", after := #[{ on := 3, ground := Ground.guard }], guard := some (3, false) } : Oper)) (v := undef) rfl (by kernel_rfl) (by kernel_rfl) (by kernel_rfl) (fun _ _ _ h => h) (Or.inr ⟨by rfl, rfl⟩) (by assumption) ?_)
        (try simp only [Act.put, List.setIfInBounds_toArray, List.set_cons_zero, List.set_cons_succ])
        first | (refine wpAnyH_take (i := 7) (oi := ({ dst := some 25, op := Op.move (Operand.tmp 3), type := 3, pos := "law.go:48", after := #[{ on := 3, ground := Ground.guard }], guard := some (3, false) } : Oper)) (v := ?v7) rfl (by kernel_rfl) (by kernel_rfl) (by kernel_rfl) (fun _ _ _ h => h) (Or.inl ⟨by rfl, ?hy7⟩) (by assumption) ?rest7; case hy7 => ((intro w' hSw); (try dsimp only at hSw); go_simp; (try with_reducible rfl))) | (refine wpAnyH_take (i := 7) (oi := ({ dst := some 25, op := Op.move (Operand.tmp 3), type := 3, pos := "law.go:48", after := #[{ on := 3, ground := Ground.guard }], guard := some (3, false) } : Oper)) (v := undef) rfl (by kernel_rfl) (by kernel_rfl) (by kernel_rfl) (fun _ _ _ h => h) (Or.inr ⟨by rfl, rfl⟩) (by assumption) ?_)
        (try simp only [Act.put, List.setIfInBounds_toArray, List.set_cons_zero, List.set_cons_succ])
        first | (refine wpAnyH_take (i := 8) (oi := ({ dst := some 26, op := Op.indexAddr 27 (Operand.tmp 24) (Operand.tmp 25), type := 0, pos := "law.go:48", after := #[{ on := 6, ground := Ground.data }, { on := 7, ground := Ground.data }, { on := 3, ground := Ground.guard }], guard := some (3, false) } : Oper)) (v := ?v8) rfl (by kernel_rfl) (by kernel_rfl) (by kernel_rfl) (fun _ _ _ h => h) (Or.inl ⟨by rfl, ?hy8⟩) (by assumption) ?rest8; case hy8 => ((intro w' hSw); (try dsimp only at hSw); go_simp; (try with_reducible rfl))) | (refine wpAnyH_take (i := 8) (oi := ({ dst := some 26, op := Op.indexAddr 27 (Operand.tmp 24) (Operand.tmp 25), type := 0, pos := "law.go:48", after := #[{ on := 6, ground := Ground.data }, { on := 7, ground := Ground.data }, { on := 3, ground := Ground.guard }], guard := some (3, false) } : Oper)) (v := undef) rfl (by kernel_rfl) (by kernel_rfl) (by kernel_rfl) (fun _ _ _ h => h) (Or.inr ⟨by rfl, rfl⟩) (by assumption) ?_)
        (try simp only [Act.put, List.setIfInBounds_toArray, List.set_cons_zero, List.set_cons_succ])
        first | (refine wpAnyH_take (i := 9) (oi := ({ dst := some 27, op := Op.fieldAddr 57 (Operand.tmp 26) 0, type := 0, pos := "law.go:48", after := #[{ on := 8, ground := Ground.data }, { on := 3, ground := Ground.guard }], guard := some (3, false) } : Oper)) (v := ?v9) rfl (by kernel_rfl) (by kernel_rfl) (by kernel_rfl) (fun _ _ _ h => h) (Or.inl ⟨by rfl, ?hy9⟩) (by assumption) ?rest9; case hy9 => ((intro w' hSw); (try dsimp only at hSw); go_simp; (try with_reducible rfl))) | (refine wpAnyH_take (i := 9) (oi := ({ dst := some 27, op := Op.fieldAddr 57 (Operand.tmp 26) 0, type := 0, pos := "law.go:48", after := #[{ on := 8, ground := Ground.data }, { on := 3, ground := Ground.guard }], guard := some (3, false) } : Oper)) (v := undef) rfl (by kernel_rfl) (by kernel_rfl) (by kernel_rfl) (fun _ _ _ h => h) (Or.inr ⟨by rfl, rfl⟩) (by assumption) ?_)
        (try simp only [Act.put, List.setIfInBounds_toArray, List.set_cons_zero, List.set_cons_succ])
        first | (refine wpAnyH_take (i := 10) (oi := ({ dst := some 28, op := Op.fieldAddr 53 (Operand.tmp 27) 0, type := 0, pos := "law.go:48", after := #[{ on := 9, ground := Ground.data }, { on := 3, ground := Ground.guard }], guard := some (3, false) } : Oper)) (v := ?v10) rfl (by kernel_rfl) (by kernel_rfl) (by kernel_rfl) (fun _ _ _ h => h) (Or.inl ⟨by rfl, ?hy10⟩) (by assumption) ?rest10; case hy10 => ((intro w' hSw); (try dsimp only at hSw); go_simp; (try with_reducible rfl))) | (refine wpAnyH_take (i := 10) (oi := ({ dst := some 28, op := Op.fieldAddr 53 (Operand.tmp 27) 0, type := 0, pos := "law.go:48", after := #[{ on := 9, ground := Ground.data }, { on := 3, ground := Ground.guard }], guard := some (3, false) } : Oper)) (v := undef) rfl (by kernel_rfl) (by kernel_rfl) (by kernel_rfl) (fun _ _ _ h => h) (Or.inr ⟨by rfl, rfl⟩) (by assumption) ?_)
        (try simp only [Act.put, List.setIfInBounds_toArray, List.set_cons_zero, List.set_cons_succ])
        first | (refine wpAnyH_take (i := 11) (oi := ({ dst := some 29, op := Op.load 4 (Operand.tmp 28), type := 4, pos := "law.go:48", after := #[{ on := 10, ground := Ground.data }, { on := 3, ground := Ground.guard }], guard := some (3, false) } : Oper)) (v := ?v11) rfl (by kernel_rfl) (by kernel_rfl) (by kernel_rfl) (fun _ _ _ h => h) (Or.inl ⟨by rfl, ?hy11⟩) (by assumption) ?rest11; case hy11 => ((intro w' hSw); (try dsimp only at hSw); go_simp; (try with_reducible rfl))) | (refine wpAnyH_take (i := 11) (oi := ({ dst := some 29, op := Op.load 4 (Operand.tmp 28), type := 4, pos := "law.go:48", after := #[{ on := 10, ground := Ground.data }, { on := 3, ground := Ground.guard }], guard := some (3, false) } : Oper)) (v := undef) rfl (by kernel_rfl) (by kernel_rfl) (by kernel_rfl) (fun _ _ _ h => h) (Or.inr ⟨by rfl, rfl⟩) (by assumption) ?_)
        (try simp only [Act.put, List.setIfInBounds_toArray, List.set_cons_zero, List.set_cons_succ])
        first | (refine wpAnyH_take (i := 12) (oi := ({ dst := some 30, op := Op.binOp BinOp.neq 4 (Operand.tmp 23) (Operand.tmp 29) 4, type := 4, pos := "law.go:48", after := #[{ on := 5, ground := Ground.data }, { on := 11, ground := Ground.data }, { on := 3, ground := Ground.guard }], guard := some (3, false) } : Oper)) (v := ?v12) rfl (by kernel_rfl) (by kernel_rfl) (by kernel_rfl) (fun _ _ _ h => h) (Or.inl ⟨by rfl, ?hy12⟩) (by assumption) ?rest12; case hy12 => ((intro w' hSw); (try dsimp only at hSw); go_simp; (try with_reducible rfl))) | (refine wpAnyH_take (i := 12) (oi := ({ dst := some 30, op := Op.binOp BinOp.neq 4 (Operand.tmp 23) (Operand.tmp 29) 4, type := 4, pos := "law.go:48", after := #[{ on := 5, ground := Ground.data }, { on := 11, ground := Ground.data }, { on := 3, ground := Ground.guard }], guard := some (3, false) } : Oper)) (v := undef) rfl (by kernel_rfl) (by kernel_rfl) (by kernel_rfl) (fun _ _ _ h => h) (Or.inr ⟨by rfl, rfl⟩) (by assumption) ?_)
        (try simp only [Act.put, List.setIfInBounds_toArray, List.set_cons_zero, List.set_cons_succ])
        first | (refine wpAnyH_take (i := 13) (oi := ({ dst := some 31, op := Op.pick (Operand.tmp 21) (Operand.const (Value.bool true)) (Operand.tmp 30), type := 4, pos := "law.go:48", after := #[{ on := 3, ground := Ground.data }, { on := 12, ground := Ground.data }], guard := none } : Oper)) (v := ?v13) rfl (by kernel_rfl) (by kernel_rfl) (by kernel_rfl) (fun _ _ _ h => h) (Or.inl ⟨by rfl, ?hy13⟩) (by assumption) ?rest13; case hy13 => ((intro w' hSw); (try dsimp only at hSw); go_simp; (try with_reducible rfl))) | (refine wpAnyH_take (i := 13) (oi := ({ dst := some 31, op := Op.pick (Operand.tmp 21) (Operand.const (Value.bool true)) (Operand.tmp 30), type := 4, pos := "law.go:48", after := #[{ on := 3, ground := Ground.data }, { on := 12, ground := Ground.data }], guard := none } : Oper)) (v := undef) rfl (by kernel_rfl) (by kernel_rfl) (by kernel_rfl) (fun _ _ _ h => h) (Or.inr ⟨by rfl, rfl⟩) (by assumption) ?_)
        (try simp only [Act.put, List.setIfInBounds_toArray, List.set_cons_zero, List.set_cons_succ])
        first | (refine wpAnyH_take (i := 14) (oi := ({ dst := some 32, op := Op.move (Operand.tmp 31), type := 4, pos := "law.go:48", after := #[{ on := 13, ground := Ground.data }, { on := 3, ground := Ground.chain }], guard := none } : Oper)) (v := ?v14) rfl (by kernel_rfl) (by kernel_rfl) (by kernel_rfl) (fun _ _ _ h => h) (Or.inl ⟨by rfl, ?hy14⟩) (by assumption) ?rest14; case hy14 => ((intro w' hSw); (try dsimp only at hSw); go_simp; (try with_reducible rfl))) | (refine wpAnyH_take (i := 14) (oi := ({ dst := some 32, op := Op.move (Operand.tmp 31), type := 4, pos := "law.go:48", after := #[{ on := 13, ground := Ground.data }, { on := 3, ground := Ground.chain }], guard := none } : Oper)) (v := undef) rfl (by kernel_rfl) (by kernel_rfl) (by kernel_rfl) (fun _ _ _ h => h) (Or.inr ⟨by rfl, rfl⟩) (by assumption) ?_)
        (try simp only [Act.put, List.setIfInBounds_toArray, List.set_cons_zero, List.set_cons_succ])
        first | (refine wpAnyH_take (i := 15) (oi := ({ dst := some 33, op := Op.fieldAddr 53 (Operand.tmp 4) 1, type := 0, pos := "law.go:48", after := #[{ on := 14, ground := Ground.guard }], guard := some (14, false) } : Oper)) (v := ?v15) rfl (by kernel_rfl) (by kernel_rfl) (by kernel_rfl) (fun _ _ _ h => h) (Or.inl ⟨by rfl, ?hy15⟩) (by assumption) ?rest15; case hy15 => ((intro w' hSw); (try dsimp only at hSw); go_simp; (try with_reducible rfl))) | (refine wpAnyH_take (i := 15) (oi := ({ dst := some 33, op := Op.fieldAddr 53 (Operand.tmp 4) 1, type := 0, pos := "law.go:48", after := #[{ on := 14, ground := Ground.guard }], guard := some (14, false) } : Oper)) (v := undef) rfl (by kernel_rfl) (by kernel_rfl) (by kernel_rfl) (fun _ _ _ h => h) (Or.inr ⟨by rfl, rfl⟩) (by assumption) ?_)
        (try simp only [Act.put, List.setIfInBounds_toArray, List.set_cons_zero, List.set_cons_succ])
        first | (refine wpAnyH_take (i := 16) (oi := ({ dst := some 34, op := Op.load 51 (Operand.tmp 33), type := 51, pos := "law.go:48", after := #[{ on := 15, ground := Ground.data }, { on := 14, ground := Ground.guard }], guard := some (14, false) } : Oper)) (v := ?v16) rfl (by kernel_rfl) (by kernel_rfl) (by kernel_rfl) (fun _ _ _ h => h) (Or.inl ⟨by rfl, ?hy16⟩) (by assumption) ?rest16; case hy16 => ((intro w' hSw); (try dsimp only at hSw); go_simp; (try with_reducible rfl))) | (refine wpAnyH_take (i := 16) (oi := ({ dst := some 34, op := Op.load 51 (Operand.tmp 33), type := 51, pos := "law.go:48", after := #[{ on := 15, ground := Ground.data }, { on := 14, ground := Ground.guard }], guard := some (14, false) } : Oper)) (v := undef) rfl (by kernel_rfl) (by kernel_rfl) (by kernel_rfl) (fun _ _ _ h => h) (Or.inr ⟨by rfl, rfl⟩) (by assumption) ?_)
        (try simp only [Act.put, List.setIfInBounds_toArray, List.set_cons_zero, List.set_cons_succ])
        first | (refine wpAnyH_take (i := 17) (oi := ({ dst := some 35, op := Op.call { callee := Callee.builtin Builtin.len, args := #[Operand.tmp 34], argTypes := #[51] }, type := 3, pos := "law.go:48", after := #[{ on := 16, ground := Ground.data }, { on := 14, ground := Ground.guard }], guard := some (14, false) } : Oper)) (v := ?v17) rfl (by kernel_rfl) (by kernel_rfl) (by kernel_rfl) (fun _ _ _ h => h) (Or.inl ⟨by rfl, ?hy17⟩) (by assumption) ?rest17; case hy17 => ((intro w' hSw); (try dsimp only at hSw); go_simp; (try with_reducible rfl))) | (refine wpAnyH_take (i := 17) (oi := ({ dst := some 35, op := Op.call { callee := Callee.builtin Builtin.len, args := #[Operand.tmp 34], argTypes := #[51] }, type := 3, pos := "law.go:48", after := #[{ on := 16, ground := Ground.data }, { on := 14, ground := Ground.guard }], guard := some (14, false) } : Oper)) (v := undef) rfl (by kernel_rfl) (by kernel_rfl) (by kernel_rfl) (fun _ _ _ h => h) (Or.inr ⟨by rfl, rfl⟩) (by assumption) ?_)
        (try simp only [Act.put, List.setIfInBounds_toArray, List.set_cons_zero, List.set_cons_succ])
        first | (refine wpAnyH_take (i := 18) (oi := ({ dst := some 36, op := Op.move (Operand.tmp 0), type := 27, pos := "law.go:48", after := #[{ on := 14, ground := Ground.guard }], guard := some (14, false) } : Oper)) (v := ?v18) rfl (by kernel_rfl) (by kernel_rfl) (by kernel_rfl) (fun _ _ _ h => h) (Or.inl ⟨by rfl, ?hy18⟩) (by assumption) ?rest18; case hy18 => ((intro w' hSw); (try dsimp only at hSw); go_simp; (try with_reducible rfl))) | (refine wpAnyH_take (i := 18) (oi := ({ dst := some 36, op := Op.move (Operand.tmp 0), type := 27, pos := "law.go:48", after := #[{ on := 14, ground := Ground.guard }], guard := some (14, false) } : Oper)) (v := undef) rfl (by kernel_rfl) (by kernel_rfl) (by kernel_rfl) (fun _ _ _ h => h) (Or.inr ⟨by rfl, rfl⟩) (by assumption) ?_)
        (try simp only [Act.put, List.setIfInBounds_toArray, List.set_cons_zero, List.set_cons_succ])
        first | (refine wpAnyH_take (i := 19) (oi := ({ dst := some 37, op := Op.move (Operand.tmp 3), type := 3, pos := "law.go:48", after := #[{ on := 14, ground := Ground.guard }], guard := some (14, false) } : Oper)) (v := ?v19) rfl (by kernel_rfl) (by kernel_rfl) (by kernel_rfl) (fun _ _ _ h => h) (Or.inl ⟨by rfl, ?hy19⟩) (by assumption) ?rest19; case hy19 => ((intro w' hSw); (try dsimp only at hSw); go_simp; (try with_reducible rfl))) | (refine wpAnyH_take (i := 19) (oi := ({ dst := some 37, op := Op.move (Operand.tmp 3), type := 3, pos := "law.go:48", after := #[{ on := 14, ground := Ground.guard }], guard := some (14, false) } : Oper)) (v := undef) rfl (by kernel_rfl) (by kernel_rfl) (by kernel_rfl) (fun _ _ _ h => h) (Or.inr ⟨by rfl, rfl⟩) (by assumption) ?_)
        (try simp only [Act.put, List.setIfInBounds_toArray, List.set_cons_zero, List.set_cons_succ])
        first | (refine wpAnyH_take (i := 20) (oi := ({ dst := some 38, op := Op.indexAddr 27 (Operand.tmp 36) (Operand.tmp 37), type := 0, pos := "law.go:48", after := #[{ on := 18, ground := Ground.data }, { on := 19, ground := Ground.data }, { on := 14, ground := Ground.guard }], guard := some (14, false) } : Oper)) (v := ?v20) rfl (by kernel_rfl) (by kernel_rfl) (by kernel_rfl) (fun _ _ _ h => h) (Or.inl ⟨by rfl, ?hy20⟩) (by assumption) ?rest20; case hy20 => ((intro w' hSw); (try dsimp only at hSw); go_simp; (try with_reducible rfl))) | (refine wpAnyH_take (i := 20) (oi := ({ dst := some 38, op := Op.indexAddr 27 (Operand.tmp 36) (Operand.tmp 37), type := 0, pos := "law.go:48", after := #[{ on := 18, ground := Ground.data }, { on := 19, ground := Ground.data }, { on := 14, ground := Ground.guard }], guard := some (14, false) } : Oper)) (v := undef) rfl (by kernel_rfl) (by kernel_rfl) (by kernel_rfl) (fun _ _ _ h => h) (Or.inr ⟨by rfl, rfl⟩) (by assumption) ?_)
        (try simp only [Act.put, List.setIfInBounds_toArray, List.set_cons_zero, List.set_cons_succ])
        first | (refine wpAnyH_take (i := 21) (oi := ({ dst := some 39, op := Op.fieldAddr 57 (Operand.tmp 38) 0, type := 0, pos := "law.go:48", after := #[{ on := 20, ground := Ground.data }, { on := 14, ground := Ground.guard }], guard := some (14, false) } : Oper)) (v := ?v21) rfl (by kernel_rfl) (by kernel_rfl) (by kernel_rfl) (fun _ _ _ h => h) (Or.inl ⟨by rfl, ?hy21⟩) (by assumption) ?rest21; case hy21 => ((intro w' hSw); (try dsimp only at hSw); go_simp; (try with_reducible rfl))) | (refine wpAnyH_take (i := 21) (oi := ({ dst := some 39, op := Op.fieldAddr 57 (Operand.tmp 38) 0, type := 0, pos := "law.go:48", after := #[{ on := 20, ground := Ground.data }, { on := 14, ground := Ground.guard }], guard := some (14, false) } : Oper)) (v := undef) rfl (by kernel_rfl) (by kernel_rfl) (by kernel_rfl) (fun _ _ _ h => h) (Or.inr ⟨by rfl, rfl⟩) (by assumption) ?_)
        (try simp only [Act.put, List.setIfInBounds_toArray, List.set_cons_zero, List.set_cons_succ])
        first | (refine wpAnyH_take (i := 22) (oi := ({ dst := some 40, op := Op.fieldAddr 53 (Operand.tmp 39) 1, type := 0, pos := "law.go:48", after := #[{ on := 21, ground := Ground.data }, { on := 14, ground := Ground.guard }], guard := some (14, false) } : Oper)) (v := ?v22) rfl (by kernel_rfl) (by kernel_rfl) (by kernel_rfl) (fun _ _ _ h => h) (Or.inl ⟨by rfl, ?hy22⟩) (by assumption) ?rest22; case hy22 => ((intro w' hSw); (try dsimp only at hSw); go_simp; (try with_reducible rfl))) | (refine wpAnyH_take (i := 22) (oi := ({ dst := some 40, op := Op.fieldAddr 53 (Operand.tmp 39) 1, type := 0, pos := "law.go:48", after := #[{ on := 21, ground := Ground.data }, { on := 14, ground := Ground.guard }], guard := some (14, false) } : Oper)) (v := undef) rfl (by kernel_rfl) (by kernel_rfl) (by kernel_rfl) (fun _ _ _ h => h) (Or.inr ⟨by rfl, rfl⟩) (by assumption) ?_)
        (try simp only [Act.put, List.setIfInBounds_toArray, List.set_cons_zero, List.set_cons_succ])
        first | (refine wpAnyH_take (i := 23) (oi := ({ dst := some 41, op := Op.load 51 (Operand.tmp 40), type := 51, pos := "law.go:48", after := #[{ on := 22, ground := Ground.data }, { on := 14, ground := Ground.guard }], guard := some (14, false) } : Oper)) (v := ?v23) rfl (by kernel_rfl) (by kernel_rfl) (by kernel_rfl) (fun _ _ _ h => h) (Or.inl ⟨by rfl, ?hy23⟩) (by assumption) ?rest23; case hy23 => ((intro w' hSw); (try dsimp only at hSw); go_simp; (try with_reducible rfl))) | (refine wpAnyH_take (i := 23) (oi := ({ dst := some 41, op := Op.load 51 (Operand.tmp 40), type := 51, pos := "law.go:48", after := #[{ on := 22, ground := Ground.data }, { on := 14, ground := Ground.guard }], guard := some (14, false) } : Oper)) (v := undef) rfl (by kernel_rfl) (by kernel_rfl) (by kernel_rfl) (fun _ _ _ h => h) (Or.inr ⟨by rfl, rfl⟩) (by assumption) ?_)
        (try simp only [Act.put, List.setIfInBounds_toArray, List.set_cons_zero, List.set_cons_succ])
        first | (refine wpAnyH_take (i := 24) (oi := ({ dst := some 42, op := Op.call { callee := Callee.builtin Builtin.len, args := #[Operand.tmp 41], argTypes := #[51] }, type := 3, pos := "law.go:48", after := #[{ on := 23, ground := Ground.data }, { on := 14, ground := Ground.guard }], guard := some (14, false) } : Oper)) (v := ?v24) rfl (by kernel_rfl) (by kernel_rfl) (by kernel_rfl) (fun _ _ _ h => h) (Or.inl ⟨by rfl, ?hy24⟩) (by assumption) ?rest24; case hy24 => ((intro w' hSw); (try dsimp only at hSw); go_simp; (try with_reducible rfl))) | (refine wpAnyH_take (i := 24) (oi := ({ dst := some 42, op := Op.call { callee := Callee.builtin Builtin.len, args := #[Operand.tmp 41], argTypes := #[51] }, type := 3, pos := "law.go:48", after := #[{ on := 23, ground := Ground.data }, { on := 14, ground := Ground.guard }], guard := some (14, false) } : Oper)) (v := undef) rfl (by kernel_rfl) (by kernel_rfl) (by kernel_rfl) (fun _ _ _ h => h) (Or.inr ⟨by rfl, rfl⟩) (by assumption) ?_)
        (try simp only [Act.put, List.setIfInBounds_toArray, List.set_cons_zero, List.set_cons_succ])
        first | (refine wpAnyH_take (i := 25) (oi := ({ dst := some 43, op := Op.binOp BinOp.neq 3 (Operand.tmp 35) (Operand.tmp 42) 3, type := 4, pos := "law.go:48", after := #[{ on := 17, ground := Ground.data }, { on := 24, ground := Ground.data }, { on := 14, ground := Ground.guard }], guard := some (14, false) } : Oper)) (v := ?v25) rfl (by kernel_rfl) (by kernel_rfl) (by kernel_rfl) (fun _ _ _ h => h) (Or.inl ⟨by rfl, ?hy25⟩) (by assumption) ?rest25; case hy25 => ((intro w' hSw); (try dsimp only at hSw); go_simp; (try with_reducible rfl))) | (refine wpAnyH_take (i := 25) (oi := ({ dst := some 43, op := Op.binOp BinOp.neq 3 (Operand.tmp 35) (Operand.tmp 42) 3, type := 4, pos := "law.go:48", after := #[{ on := 17, ground := Ground.data }, { on := 24, ground := Ground.data }, { on := 14, ground := Ground.guard }], guard := some (14, false) } : Oper)) (v := undef) rfl (by kernel_rfl) (by kernel_rfl) (by kernel_rfl) (fun _ _ _ h => h) (Or.inr ⟨by rfl, rfl⟩) (by assumption) ?_)
        (try simp only [Act.put, List.setIfInBounds_toArray, List.set_cons_zero, List.set_cons_succ])
        first | (refine wpAnyH_take (i := 26) (oi := ({ dst := some 44, op := Op.pick (Operand.tmp 32) (Operand.const (Value.bool true)) (Operand.tmp 43), type := 4, pos := "law.go:48", after := #[{ on := 14, ground := Ground.data }, { on := 25, ground := Ground.data }], guard := none } : Oper)) (v := ?v26) rfl (by kernel_rfl) (by kernel_rfl) (by kernel_rfl) (fun _ _ _ h => h) (Or.inl ⟨by rfl, ?hy26⟩) (by assumption) ?rest26; case hy26 => ((intro w' hSw); (try dsimp only at hSw); go_simp; (try with_reducible rfl))) | (refine wpAnyH_take (i := 26) (oi := ({ dst := some 44, op := Op.pick (Operand.tmp 32) (Operand.const (Value.bool true)) (Operand.tmp 43), type := 4, pos := "law.go:48", after := #[{ on := 14, ground := Ground.data }, { on := 25, ground := Ground.data }], guard := none } : Oper)) (v := undef) rfl (by kernel_rfl) (by kernel_rfl) (by kernel_rfl) (fun _ _ _ h => h) (Or.inr ⟨by rfl, rfl⟩) (by assumption) ?_)
        (try simp only [Act.put, List.setIfInBounds_toArray, List.set_cons_zero, List.set_cons_succ])
        first | (refine wpAnyH_take (i := 27) (oi := ({ dst := some 45, op := Op.move (Operand.tmp 44), type := 4, pos := "law.go:48", after := #[{ on := 26, ground := Ground.data }, { on := 14, ground := Ground.chain }], guard := none } : Oper)) (v := ?v27) rfl (by kernel_rfl) (by kernel_rfl) (by kernel_rfl) (fun _ _ _ h => h) (Or.inl ⟨by rfl, ?hy27⟩) (by assumption) ?rest27; case hy27 => ((intro w' hSw); (try dsimp only at hSw); go_simp; (try with_reducible rfl))) | (refine wpAnyH_take (i := 27) (oi := ({ dst := some 45, op := Op.move (Operand.tmp 44), type := 4, pos := "law.go:48", after := #[{ on := 26, ground := Ground.data }, { on := 14, ground := Ground.chain }], guard := none } : Oper)) (v := undef) rfl (by kernel_rfl) (by kernel_rfl) (by kernel_rfl) (fun _ _ _ h => h) (Or.inr ⟨by rfl, rfl⟩) (by assumption) ?_)
        (try simp only [Act.put, List.setIfInBounds_toArray, List.set_cons_zero, List.set_cons_succ])
        first | (refine wpAnyH_take (i := 28) (oi := ({ dst := some 46, op := Op.move (Operand.tmp 3), type := 3, pos := "law.go:48", after := #[{ on := 27, ground := Ground.guard }], guard := some (27, false) } : Oper)) (v := ?v28) rfl (by kernel_rfl) (by kernel_rfl) (by kernel_rfl) (fun _ _ _ h => h) (Or.inl ⟨by rfl, ?hy28⟩) (by assumption) ?rest28; case hy28 => ((intro w' hSw); (try dsimp only at hSw); go_simp; (try with_reducible rfl))) | (refine wpAnyH_take (i := 28) (oi := ({ dst := some 46, op := Op.move (Operand.tmp 3), type := 3, pos := "law.go:48", after := #[{ on := 27, ground := Ground.guard }], guard := some (27, false) } : Oper)) (v := undef) rfl (by kernel_rfl) (by kernel_rfl) (by kernel_rfl) (fun _ _ _ h => h) (Or.inr ⟨by rfl, rfl⟩) (by assumption) ?_)
        (try simp only [Act.put, List.setIfInBounds_toArray, List.set_cons_zero, List.set_cons_succ])
        first | (refine wpAnyH_take (i := 29) (oi := ({ dst := some 47, op := Op.binOp BinOp.gtr 3 (Operand.tmp 46) (Operand.const (Value.int IntKind.i64 0)) 3, type := 4, pos := "law.go:48", after := #[{ on := 28, ground := Ground.data }, { on := 27, ground := Ground.guard }], guard := some (27, false) } : Oper)) (v := ?v29) rfl (by kernel_rfl) (by kernel_rfl) (by kernel_rfl) (fun _ _ _ h => h) (Or.inl ⟨by rfl, ?hy29⟩) (by assumption) ?rest29; case hy29 => ((intro w' hSw); (try dsimp only at hSw); go_simp; (try with_reducible rfl))) | (refine wpAnyH_take (i := 29) (oi := ({ dst := some 47, op := Op.binOp BinOp.gtr 3 (Operand.tmp 46) (Operand.const (Value.int IntKind.i64 0)) 3, type := 4, pos := "law.go:48", after := #[{ on := 28, ground := Ground.data }, { on := 27, ground := Ground.guard }], guard := some (27, false) } : Oper)) (v := undef) rfl (by kernel_rfl) (by kernel_rfl) (by kernel_rfl) (fun _ _ _ h => h) (Or.inr ⟨by rfl, rfl⟩) (by assumption) ?_)
        (try simp only [Act.put, List.setIfInBounds_toArray, List.set_cons_zero, List.set_cons_succ])
        first | (refine wpAnyH_take (i := 30) (oi := ({ dst := some 48, op := Op.move (Operand.tmp 47), type := 4, pos := "law.go:48", after := #[{ on := 29, ground := Ground.data }, { on := 27, ground := Ground.chain }, { on := 27, ground := Ground.guard }], guard := some (27, false) } : Oper)) (v := ?v30) rfl (by kernel_rfl) (by kernel_rfl) (by kernel_rfl) (fun _ _ _ h => h) (Or.inl ⟨by rfl, ?hy30⟩) (by assumption) ?rest30; case hy30 => ((intro w' hSw); (try dsimp only at hSw); go_simp; (try with_reducible rfl))) | (refine wpAnyH_take (i := 30) (oi := ({ dst := some 48, op := Op.move (Operand.tmp 47), type := 4, pos := "law.go:48", after := #[{ on := 29, ground := Ground.data }, { on := 27, ground := Ground.chain }, { on := 27, ground := Ground.guard }], guard := some (27, false) } : Oper)) (v := undef) rfl (by kernel_rfl) (by kernel_rfl) (by kernel_rfl) (fun _ _ _ h => h) (Or.inr ⟨by rfl, rfl⟩) (by assumption) ?_)
        (try simp only [Act.put, List.setIfInBounds_toArray, List.set_cons_zero, List.set_cons_succ])
        first | (refine wpAnyH_take (i := 31) (oi := ({ dst := some 49, op := Op.move (Operand.tmp 0), type := 27, pos := "law.go:48", after := #[{ on := 30, ground := Ground.guard }], guard := some (30, true) } : Oper)) (v := undef) rfl (by kernel_rfl) (by kernel_rfl) (by kernel_rfl) (fun _ _ _ h => h) (Or.inr ⟨by rfl, rfl⟩) (by assumption) ?_) | (refine wpAnyH_take (i := 31) (oi := ({ dst := some 49, op := Op.move (Operand.tmp 0), type := 27, pos := "law.go:48", after := #[{ on := 30, ground := Ground.guard }], guard := some (30, true) } : Oper)) (v := ?v31) rfl (by kernel_rfl) (by kernel_rfl) (by kernel_rfl) (fun _ _ _ h => h) (Or.inl ⟨by rfl, ?hy31⟩) (by assumption) ?rest31; case hy31 => ((intro w' hSw); (try dsimp only at hSw); go_simp; (try with_reducible rfl)))
        (try simp only [Act.put, List.setIfInBounds_toArray, List.set_cons_zero, List.set_cons_succ])
        first | (refine wpAnyH_take (i := 32) (oi := ({ dst := some 50, op := Op.move (Operand.tmp 3), type := 3, pos := "law.go:48", after := #[{ on := 30, ground := Ground.guard }], guard := some (30, true) } : Oper)) (v := undef) rfl (by kernel_rfl) (by kernel_rfl) (by kernel_rfl) (fun _ _ _ h => h) (Or.inr ⟨by rfl, rfl⟩) (by assumption) ?_) | (refine wpAnyH_take (i := 32) (oi := ({ dst := some 50, op := Op.move (Operand.tmp 3), type := 3, pos := "law.go:48", after := #[{ on := 30, ground := Ground.guard }], guard := some (30, true) } : Oper)) (v := ?v32) rfl (by kernel_rfl) (by kernel_rfl) (by kernel_rfl) (fun _ _ _ h => h) (Or.inl ⟨by rfl, ?hy32⟩) (by assumption) ?rest32; case hy32 => ((intro w' hSw); (try dsimp only at hSw); go_simp; (try with_reducible rfl)))
        (try simp only [Act.put, List.setIfInBounds_toArray, List.set_cons_zero, List.set_cons_succ])
        first | (refine wpAnyH_take (i := 33) (oi := ({ dst := some 51, op := Op.binOp BinOp.sub 3 (Operand.tmp 50) (Operand.const (Value.int IntKind.i64 1)) 3, type := 3, pos := "law.go:48", after := #[{ on := 32, ground := Ground.data }, { on := 30, ground := Ground.guard }], guard := some (30, true) } : Oper)) (v := undef) rfl (by kernel_rfl) (by kernel_rfl) (by kernel_rfl) (fun _ _ _ h => h) (Or.inr ⟨by rfl, rfl⟩) (by assumption) ?_) | (refine wpAnyH_take (i := 33) (oi := ({ dst := some 51, op := Op.binOp BinOp.sub 3 (Operand.tmp 50) (Operand.const (Value.int IntKind.i64 1)) 3, type := 3, pos := "law.go:48", after := #[{ on := 32, ground := Ground.data }, { on := 30, ground := Ground.guard }], guard := some (30, true) } : Oper)) (v := ?v33) rfl (by kernel_rfl) (by kernel_rfl) (by kernel_rfl) (fun _ _ _ h => h) (Or.inl ⟨by rfl, ?hy33⟩) (by assumption) ?rest33; case hy33 => ((intro w' hSw); (try dsimp only at hSw); go_simp; (try with_reducible rfl)))
        (try simp only [Act.put, List.setIfInBounds_toArray, List.set_cons_zero, List.set_cons_succ])
        first | (refine wpAnyH_take (i := 34) (oi := ({ dst := some 52, op := Op.indexAddr 27 (Operand.tmp 49) (Operand.tmp 51), type := 0, pos := "law.go:48", after := #[{ on := 31, ground := Ground.data }, { on := 33, ground := Ground.data }, { on := 30, ground := Ground.guard }], guard := some (30, true) } : Oper)) (v := undef) rfl (by kernel_rfl) (by kernel_rfl) (by kernel_rfl) (fun _ _ _ h => h) (Or.inr ⟨by rfl, rfl⟩) (by assumption) ?_) | (refine wpAnyH_take (i := 34) (oi := ({ dst := some 52, op := Op.indexAddr 27 (Operand.tmp 49) (Operand.tmp 51), type := 0, pos := "law.go:48", after := #[{ on := 31, ground := Ground.data }, { on := 33, ground := Ground.data }, { on := 30, ground := Ground.guard }], guard := some (30, true) } : Oper)) (v := ?v34) rfl (by kernel_rfl) (by kernel_rfl) (by kernel_rfl) (fun _ _ _ h => h) (Or.inl ⟨by rfl, ?hy34⟩) (by assumption) ?rest34; case hy34 => ((intro w' hSw); (try dsimp only at hSw); go_simp; (try with_reducible rfl)))
        (try simp only [Act.put, List.setIfInBounds_toArray, List.set_cons_zero, List.set_cons_succ])
        first | (refine wpAnyH_take (i := 35) (oi := ({ dst := some 53, op := Op.fieldAddr 57 (Operand.tmp 52) 1, type := 0, pos := "law.go:48", after := #[{ on := 34, ground := Ground.data }, { on := 30, ground := Ground.guard }], guard := some (30, true) } : Oper)) (v := undef) rfl (by kernel_rfl) (by kernel_rfl) (by kernel_rfl) (fun _ _ _ h => h) (Or.inr ⟨by rfl, rfl⟩) (by assumption) ?_) | (refine wpAnyH_take (i := 35) (oi := ({ dst := some 53, op := Op.fieldAddr 57 (Operand.tmp 52) 1, type := 0, pos := "law.go:48", after := #[{ on := 34, ground := Ground.data }, { on := 30, ground := Ground.guard }], guard := some (30, true) } : Oper)) (v := ?v35) rfl (by kernel_rfl) (by kernel_rfl) (by kernel_rfl) (fun _ _ _ h => h) (Or.inl ⟨by rfl, ?hy35⟩) (by assumption) ?rest35; case hy35 => ((intro w' hSw); (try dsimp only at hSw); go_simp; (try with_reducible rfl)))
        (try simp only [Act.put, List.setIfInBounds_toArray, List.set_cons_zero, List.set_cons_succ])
        first | (refine wpAnyH_take (i := 36) (oi := ({ dst := some 54, op := Op.load 55 (Operand.tmp 53), type := 55, pos := "law.go:48", after := #[{ on := 35, ground := Ground.data }, { on := 30, ground := Ground.guard }], guard := some (30, true) } : Oper)) (v := undef) rfl (by kernel_rfl) (by kernel_rfl) (by kernel_rfl) (fun _ _ _ h => h) (Or.inr ⟨by rfl, rfl⟩) (by assumption) ?_) | (refine wpAnyH_take (i := 36) (oi := ({ dst := some 54, op := Op.load 55 (Operand.tmp 53), type := 55, pos := "law.go:48", after := #[{ on := 35, ground := Ground.data }, { on := 30, ground := Ground.guard }], guard := some (30, true) } : Oper)) (v := ?v36) rfl (by kernel_rfl) (by kernel_rfl) (by kernel_rfl) (fun _ _ _ h => h) (Or.inl ⟨by rfl, ?hy36⟩) (by assumption) ?rest36; case hy36 => ((intro w' hSw); (try dsimp only at hSw); go_simp; (try with_reducible rfl)))
        (try simp only [Act.put, List.setIfInBounds_toArray, List.set_cons_zero, List.set_cons_succ])
        first | (refine wpAnyH_take (i := 37) (oi := ({ dst := some 55, op := Op.move (Operand.tmp 0), type := 27, pos := "law.go:48", after := #[{ on := 30, ground := Ground.guard }], guard := some (30, true) } : Oper)) (v := undef) rfl (by kernel_rfl) (by kernel_rfl) (by kernel_rfl) (fun _ _ _ h => h) (Or.inr ⟨by rfl, rfl⟩) (by assumption) ?_) | (refine wpAnyH_take (i := 37) (oi := ({ dst := some 55, op := Op.move (Operand.tmp 0), type := 27, pos := "law.go:48", after := #[{ on := 30, ground := Ground.guard }], guard := some (30, true) } : Oper)) (v := ?v37) rfl (by kernel_rfl) (by kernel_rfl) (by kernel_rfl) (fun _ _ _ h => h) (Or.inl ⟨by rfl, ?hy37⟩) (by assumption) ?rest37; case hy37 => ((intro w' hSw); (try dsimp only at hSw); go_simp; (try with_reducible rfl)))
        (try simp only [Act.put, List.setIfInBounds_toArray, List.set_cons_zero, List.set_cons_succ])
        first | (refine wpAnyH_take (i := 38) (oi := ({ dst := some 56, op := Op.move (Operand.tmp 3), type := 3, pos := "law.go:48", after := #[{ on := 30, ground := Ground.guard }], guard := some (30, true) } : Oper)) (v := undef) rfl (by kernel_rfl) (by kernel_rfl) (by kernel_rfl) (fun _ _ _ h => h) (Or.inr ⟨by rfl, rfl⟩) (by assumption) ?_) | (refine wpAnyH_take (i := 38) (oi := ({ dst := some 56, op := Op.move (Operand.tmp 3), type := 3, pos := "law.go:48", after := #[{ on := 30, ground := Ground.guard }], guard := some (30, true) } : Oper)) (v := ?v38) rfl (by kernel_rfl) (by kernel_rfl) (by kernel_rfl) (fun _ _ _ h => h) (Or.inl ⟨by rfl, ?hy38⟩) (by assumption) ?rest38; case hy38 => ((intro w' hSw); (try dsimp only at hSw); go_simp; (try with_reducible rfl)))
        (try simp only [Act.put, List.setIfInBounds_toArray, List.set_cons_zero, List.set_cons_succ])
        first | (refine wpAnyH_take (i := 39) (oi := ({ dst := some 57, op := Op.indexAddr 27 (Operand.tmp 55) (Operand.tmp 56), type := 0, pos := "law.go:48", after := #[{ on := 37, ground := Ground.data }, { on := 38, ground := Ground.data }, { on := 30, ground := Ground.guard }], guard := some (30, true) } : Oper)) (v := undef) rfl (by kernel_rfl) (by kernel_rfl) (by kernel_rfl) (fun _ _ _ h => h) (Or.inr ⟨by rfl, rfl⟩) (by assumption) ?_) | (refine wpAnyH_take (i := 39) (oi := ({ dst := some 57, op := Op.indexAddr 27 (Operand.tmp 55) (Operand.tmp 56), type := 0, pos := "law.go:48", after := #[{ on := 37, ground := Ground.data }, { on := 38, ground := Ground.data }, { on := 30, ground := Ground.guard }], guard := some (30, true) } : Oper)) (v := ?v39) rfl (by kernel_rfl) (by kernel_rfl) (by kernel_rfl) (fun _ _ _ h => h) (Or.inl ⟨by rfl, ?hy39⟩) (by assumption) ?rest39; case hy39 => ((intro w' hSw); (try dsimp only at hSw); go_simp; (try with_reducible rfl)))
        (try simp only [Act.put, List.setIfInBounds_toArray, List.set_cons_zero, List.set_cons_succ])
        first | (refine wpAnyH_take (i := 40) (oi := ({ dst := some 58, op := Op.fieldAddr 57 (Operand.tmp 57) 1, type := 0, pos := "law.go:48", after := #[{ on := 39, ground := Ground.data }, { on := 30, ground := Ground.guard }], guard := some (30, true) } : Oper)) (v := undef) rfl (by kernel_rfl) (by kernel_rfl) (by kernel_rfl) (fun _ _ _ h => h) (Or.inr ⟨by rfl, rfl⟩) (by assumption) ?_) | (refine wpAnyH_take (i := 40) (oi := ({ dst := some 58, op := Op.fieldAddr 57 (Operand.tmp 57) 1, type := 0, pos := "law.go:48", after := #[{ on := 39, ground := Ground.data }, { on := 30, ground := Ground.guard }], guard := some (30, true) } : Oper)) (v := ?v40) rfl (by kernel_rfl) (by kernel_rfl) (by kernel_rfl) (fun _ _ _ h => h) (Or.inl ⟨by rfl, ?hy40⟩) (by assumption) ?rest40; case hy40 => ((intro w' hSw); (try dsimp only at hSw); go_simp; (try with_reducible rfl)))
        (try simp only [Act.put, List.setIfInBounds_toArray, List.set_cons_zero, List.set_cons_succ])
        first | (refine wpAnyH_take (i := 41) (oi := ({ dst := some 59, op := Op.load 55 (Operand.tmp 58), type := 55, pos := "law.go:48", after := #[{ on := 40, ground := Ground.data }, { on := 30, ground := Ground.guard }], guard := some (30, true) } : Oper)) (v := undef) rfl (by kernel_rfl) (by kernel_rfl) (by kernel_rfl) (fun _ _ _ h => h) (Or.inr ⟨by rfl, rfl⟩) (by assumption) ?_) | (refine wpAnyH_take (i := 41) (oi := ({ dst := some 59, op := Op.load 55 (Operand.tmp 58), type := 55, pos := "law.go:48", after := #[{ on := 40, ground := Ground.data }, { on := 30, ground := Ground.guard }], guard := some (30, true) } : Oper)) (v := ?v41) rfl (by kernel_rfl) (by kernel_rfl) (by kernel_rfl) (fun _ _ _ h => h) (Or.inl ⟨by rfl, ?hy41⟩) (by assumption) ?rest41; case hy41 => ((intro w' hSw); (try dsimp only at hSw); go_simp; (try with_reducible rfl)))
        (try simp only [Act.put, List.setIfInBounds_toArray, List.set_cons_zero, List.set_cons_succ])
        first | (refine wpAnyH_take (i := 42) (oi := ({ dst := some 60, op := Op.call { callee := Callee.value (Operand.func 49), args := #[Operand.tmp 54, Operand.tmp 59], argTypes := #[55, 55] }, type := 4, pos := "law.go:48", after := #[{ on := 36, ground := Ground.data }, { on := 41, ground := Ground.data }, { on := 30, ground := Ground.chain }, { on := 30, ground := Ground.guard }], guard := some (30, true) } : Oper)) (v := undef) rfl (by kernel_rfl) (by kernel_rfl) (by kernel_rfl) (fun _ _ _ h => h) (Or.inr ⟨by rfl, rfl⟩) (by assumption) ?_) | (refine wpAnyH_take (i := 42) (oi := ({ dst := some 60, op := Op.call { callee := Callee.value (Operand.func 49), args := #[Operand.tmp 54, Operand.tmp 59], argTypes := #[55, 55] }, type := 4, pos := "law.go:48", after := #[{ on := 36, ground := Ground.data }, { on := 41, ground := Ground.data }, { on := 30, ground := Ground.chain }, { on := 30, ground := Ground.guard }], guard := some (30, true) } : Oper)) (v := ?v42) rfl (by kernel_rfl) (by kernel_rfl) (by kernel_rfl) (fun _ _ _ h => h) (Or.inl ⟨by rfl, ?hy42⟩) (by assumption) ?rest42; case hy42 => ((intro w' hSw); (try dsimp only at hSw); go_simp; (try with_reducible rfl)))
        (try simp only [Act.put, List.setIfInBounds_toArray, List.set_cons_zero, List.set_cons_succ])
        first | (refine wpAnyH_take (i := 43) (oi := ({ dst := some 61, op := Op.unOp UnOp.not 4 (Operand.tmp 60), type := 4, pos := "law.go:48", after := #[{ on := 42, ground := Ground.data }, { on := 30, ground := Ground.guard }], guard := some (30, true) } : Oper)) (v := undef) rfl (by kernel_rfl) (by kernel_rfl) (by kernel_rfl) (fun _ _ _ h => h) (Or.inr ⟨by rfl, rfl⟩) (by assumption) ?_) | (refine wpAnyH_take (i := 43) (oi := ({ dst := some 61, op := Op.unOp UnOp.not 4 (Operand.tmp 60), type := 4, pos := "law.go:48", after := #[{ on := 42, ground := Ground.data }, { on := 30, ground := Ground.guard }], guard := some (30, true) } : Oper)) (v := ?v43) rfl (by kernel_rfl) (by kernel_rfl) (by kernel_rfl) (fun _ _ _ h => h) (Or.inl ⟨by rfl, ?hy43⟩) (by assumption) ?rest43; case hy43 => ((intro w' hSw); (try dsimp only at hSw); go_simp; (try with_reducible rfl)))
        (try simp only [Act.put, List.setIfInBounds_toArray, List.set_cons_zero, List.set_cons_succ])
        first | (refine wpAnyH_take (i := 44) (oi := ({ dst := some 62, op := Op.pick (Operand.tmp 48) (Operand.tmp 61) (Operand.const (Value.bool false)), type := 4, pos := "law.go:48", after := #[{ on := 30, ground := Ground.data }, { on := 43, ground := Ground.data }, { on := 27, ground := Ground.guard }], guard := some (27, false) } : Oper)) (v := ?v44) rfl (by kernel_rfl) (by kernel_rfl) (by kernel_rfl) (fun _ _ _ h => h) (Or.inl ⟨by rfl, ?hy44⟩) (by assumption) ?rest44; case hy44 => ((intro w' hSw); (try dsimp only at hSw); go_simp; (try with_reducible rfl))) | (refine wpAnyH_take (i := 44) (oi := ({ dst := some 62, op := Op.pick (Operand.tmp 48) (Operand.tmp 61) (Operand.const (Value.bool false)), type := 4, pos := "law.go:48", after := #[{ on := 30, ground := Ground.data }, { on := 43, ground := Ground.data }, { on := 27, ground := Ground.guard }], guard := some (27, false) } : Oper)) (v := undef) rfl (by kernel_rfl) (by kernel_rfl) (by kernel_rfl) (fun _ _ _ h => h) (Or.inr ⟨by rfl, rfl⟩) (by assumption) ?_)
        (try simp only [Act.put, List.setIfInBounds_toArray, List.set_cons_zero, List.set_cons_succ])
        first | (refine wpAnyH_take (i := 45) (oi := ({ dst := some 63, op := Op.pick (Operand.tmp 45) (Operand.const (Value.bool true)) (Operand.tmp 62), type := 4, pos := "law.go:48", after := #[{ on := 27, ground := Ground.data }, { on := 44, ground := Ground.data }], guard := none } : Oper)) (v := ?v45) rfl (by kernel_rfl) (by kernel_rfl) (by kernel_rfl) (fun _ _ _ h => h) (Or.inl ⟨by rfl, ?hy45⟩) (by assumption) ?rest45; case hy45 => ((intro w' hSw); (try dsimp only at hSw); go_simp; (try with_reducible rfl))) | (refine wpAnyH_take (i := 45) (oi := ({ dst := some 63, op := Op.pick (Operand.tmp 45) (Operand.const (Value.bool true)) (Operand.tmp 62), type := 4, pos := "law.go:48", after := #[{ on := 27, ground := Ground.data }, { on := 44, ground := Ground.data }], guard := none } : Oper)) (v := undef) rfl (by kernel_rfl) (by kernel_rfl) (by kernel_rfl) (fun _ _ _ h => h) (Or.inr ⟨by rfl, rfl⟩) (by assumption) ?_)
        (try simp only [Act.put, List.setIfInBounds_toArray, List.set_cons_zero, List.set_cons_succ])
        refine wpAnyH_done (by kernel_rfl) ?_ _
        have hbz := hb3.trans (((Below.refl W2.heap.size W2).drew.trans hb5).mono hb3.size)
        obtain ⟨Wz, hWz⟩ : ∃ y, y = w5 := ⟨_, rfl⟩
        rw [← hWz] at hbz ⊢
        clear hWz hHeld2 hS5 hb5 hS0 hS1 hdd hsg HSG hnn hbb hg0 hg1 hb3 hb2
        go_wp2_with fail
        go_loop [5] (fun i => ∃ j : Nat, j ≤ 4 ∧ i = .int .i64 j) (fun i => 4 - (intOf i).toNat)
        case atStart => exact ⟨0, by omega, rfl⟩
        case round =>
          obtain ⟨j, hj, rfl⟩ := hrel
          by_cases hj4 : j < 4
          · have j0 : (0 : Int) ≤ (j : Int) := by omega
            have j1 : (j : Int) < 4 := by omega
            have hx := HCX.out Wz hbz j hj4
            have hx0 : 0 ≤ ex p.2 j := HV.out j hj4
            generalize ex p.2 j = x at hx hx0
            go_wp2
            go_round
            case rel => exact ⟨j + 1, by omega, by go_num⟩
            case measure => simp [intOf]; omega
          · obtain rfl : j = 4 := by omega
            go_wp2
            go_roundw
            case rel => exact ⟨k + 1, by omega, by go_num, hbz⟩
            case measure => simp [intOf]; omega
      · obtain ⟨q, hq⟩ : ∃ q, q + 1 = k := ⟨k - 1, by omega⟩
        obtain ⟨t', p', hp', hte', _, _, hh4'⟩ := HHT.out q (by omega)
        have hr4 := held4_below (held4_below hh4' hb hs1) hb2 hbl
        have hr4' := held4_below hq0.out hb2 hbl
        have e1 : (k : Int) - 1 = (q : Int) := by omega
        have e2 : IntKind.i64.wrap (q : Int) = (q : Int) := IntWalk.i64_in _ (by omega)
        have e3 : (0 : Int) ≤ (q : Int) := by omega
        have e4 : (q : Int) < (n : Int) := by omega
        have hg0 : decide ((0 : Int) < (k : Int)) = true := by rw [decide_eq_true_eq]; omega
        have hg1 : decide (0 < k) = true := by rw [decide_eq_true_eq]; omega
        have HGR := Lib.hid (show decide (0 < cmpE t'.e t.e) = true by
          rw [decide_eq_true_eq, hte', HTE.out]
          exact sorted_at HC.out.1 hp' HP.out (by omega))
        have hSS : HeldQ W2.drew g b (off + k * 6) (decide (p.1 < 0)) A1 t.n ca t.A t.n t.c ∧ (Held4 W2.drew b (off + q * 6) t'.e ∧ Held4 W2.drew b (off + k * 6) t.e) := ⟨hS1, hr4, hr4'⟩
        clear hq hp' hte' hh4' hr4 hr4' hS0
        go_region_held3 (fun w' => HeldQ w' g b (off + k * 6) (decide (p.1 < 0)) A1 t.n ca t.A t.n t.c ∧ (Held4 w' b (off + q * 6) t'.e ∧ Held4 w' b (off + k * 6) t.e)) (first | exact hSS | exact hS5 | exact hS6 | go_keep)
          (first
            | (go_at_call 34; ((with_reducible refine (isign_any B _ _ _ _ _ _ hdd).mono ?_); rw [HSG.out]; rintro e w5 ⟨rfl, hb5⟩; have hS5 := And.intro (heldQ_below hSS.1 hb5 hgl hbl2) (And.intro (held4_below (w := W2.drew) hSS.2.1 hb5 hbl2) (held4_below (w := W2.drew) hSS.2.2 hb5 hbl2)); have hgl5 : g < w5.heap.size := Nat.lt_of_lt_of_le hgl hb5.size; have hbl5 : b < w5.heap.size := Nat.lt_of_lt_of_le hbl2 hb5.size))
            | (go_at_call 49; ((with_reducible refine (greater_any t'.e t.e _).mono ?_); rw [HGR.out]; rintro e w6 ⟨rfl, hb6⟩; have hS6 := And.intro (heldQ_below hS5.1 hb6 hgl5 hbl5) (And.intro (held4_below hS5.2.1 hb6 hbl5) (held4_below hS5.2.2 hb6 hbl5)))))
        replace hb5 := hb5.trans (hb6.mono hb5.size)
        have hbz := hb3.trans (((Below.refl W2.heap.size W2).drew.trans hb5).mono hb3.size)
        obtain ⟨Wz, hWz⟩ : ∃ y, y = w6 := ⟨_, rfl⟩
        rw [← hWz] at hbz ⊢
        clear hWz hb5 hb6 hSS hS5 hS6 hS1 hdd hsg HSG hnn hbb hg0 hg1 hb3 hb2 e1 e2 HHT
        go_wp2_with fail
        go_loop [5] (fun i => ∃ j : Nat, j ≤ 4 ∧ i = .int .i64 j) (fun i => 4 - (intOf i).toNat)
        case atStart => exact ⟨0, by omega, rfl⟩
        case round =>
          obtain ⟨j, hj, rfl⟩ := hrel
          by_cases hj4 : j < 4
          · have j0 : (0 : Int) ≤ (j : Int) := by omega
            have j1 : (j : Int) < 4 := by omega
            have hx := HCX.out Wz hbz j hj4
            have hx0 : 0 ≤ ex p.2 j := HV.out j hj4
            generalize ex p.2 j = x at hx hx0
            go_wp2
            go_round
            case rel => exact ⟨j + 1, by omega, by go_num⟩
            case measure => simp [intOf]; omega
          · obtain rfl : j = 4 := by omega
            go_wp2
            go_roundw
            case rel => exact ⟨k + 1, by omega, by go_num, hbz⟩
            case measure => simp [intOf]; omega
    · obtain rfl : k = n := by omega
      go_wp2
      go_ret
      exact ⟨rfl, hb⟩
end Go.Proofs.YtnknidfpkmnncaaGreat
/- checkpoly.Project at a level that there is not; calls at levels among many polynomials. -/
namespace Go.Proofs.YtnknidfpkmnncaaGreat
open Go.RowKit

set_option maxRecDepth 100000 in
theorem len0_any (w : World) : Calls Tryz.prog 69 #[.int .u64 0] w fun e w' => e = .returned (.int .i64 0) ∧ w = w' := by
  have h64 : Calls Tryz.prog 96 #[.int .u64 0] w fun e w' => e = .returned (.int .i64 0) ∧ w = w' := by
    go_enter Tryz.func96, Tryz.ntmps96
    go_wp2
    go_ret
    refine ⟨congrArg Ending.returned (congrArg (Value.int IntKind.i64) ?_), rfl⟩
    have h0 : Lib.bitLen (0 : Int).toNat = 0 := by decide
    rw [Lib.len8_of 0 (by omega) (by omega), h0]
    exact wrap_wrap8 0 (by omega)
  have H := Lib.hid h64
  clear h64
  go_enter Tryz.func69, Tryz.ntmps69
  go_wp2_with fail
  refine H.out.mono ?_
  rintro e w1 ⟨rfl, rfl⟩
  go_wp2
  go_ret
  exact ⟨rfl, rfl⟩
theorem insp_nil (w : World) (f : Value) :
    Calls Tryz.prog 87 #[.slice none 0 0, .int .i64 0, .int .i64 0, f] w fun e w' => e = .returned (.tuple #[]) ∧ w = w' := by
  go_enter Tryz.func87, Tryz.ntmps87
  go_wp2
  go_loopw [8] (fun i wr => i = .int .i64 1 ∧ wr = w) (fun _ _ => 0)
  case atStart => exact ⟨rfl, rfl⟩
  case round =>
    obtain ⟨rfl, rfl⟩ := hrel
    go_wp2
    go_end0
    exact ⟨rfl, rfl⟩
theorem pdq_nil (w : World) (f : Value) :
    Calls Tryz.prog 68 #[.slice none 0 0, .int .i64 0, .int .i64 0, .int .i64 0, f] w fun e w' => e = .returned (.tuple #[]) ∧ w = w' := by
  have H := Lib.hid (insp_nil w f)
  go_enter Tryz.func68, Tryz.ntmps68
  go_wp2
  go_loopw [1, 2, 3] (fun a b l wr => a = .int .i64 0 ∧ b = .int .i64 0 ∧ wr = w) (fun _ _ _ _ => 0)
  case atStart => exact ⟨rfl, rfl, rfl⟩
  case round =>
    obtain ⟨rfl, rfl, rfl⟩ := hrel
    go_wp2_with fail
    refine H.out.mono ?_
    rintro e w1 ⟨rfl, rfl⟩
    go_wp2
    exact bodyPost_ret (v := .tuple #[]) (by simp [results, Tryz.results68, go_sem]) rfl ⟨rfl, rfl⟩
theorem sortf_nil (w : World) (f : Value) :
    Calls Tryz.prog 43 #[.slice none 0 0, f] w fun e w' => e = .returned (.tuple #[]) ∧ w = w' := by
  have H := Lib.hid (pdq_nil w f)
  have HL := Lib.hid (len0_any w)
  go_enter Tryz.func43, Tryz.ntmps43
  go_wp2_with fail
  refine HL.out.mono ?_
  rintro e w1 ⟨rfl, rfl⟩
  go_wp2_with fail
  refine H.out.mono ?_
  rintro e w1 ⟨rfl, rfl⟩
  go_wp2
  go_end0
  exact ⟨rfl, rfl⟩
set_option maxRecDepth 100000 in
set_option maxHeartbeats 4000000 in
theorem project_bad (B : Nat) (g : Nat) (A : Option Addr) (n c : Nat) (al : List Tm) (z : Int) (w : World) (hB : B ≤ w.heap.size) (hg : w.cell? ⟨g, 0, none⟩ = some (.slice A n c)) (h : PolyC B w A n c al) (hn : n < sortLim) (hl : l1 al < big) (hz : z < 1 ∨ 4 < z) :
    Calls Tryz.prog 14 #[.slice (some ⟨g, 0, none⟩) 1 1, .int .i64 z] w (ValP (.slice none 0 0) w) := by
  have hal0 : Below w.heap.size w (w.alloc (.cells #[.slice none 0 0] 34)) := (Below.refl _ _).alloc (Nat.le_refl _) _
  have hg0 := (hal0.cell (p := ⟨g, 0, none⟩) (World.block_lt_of_cell? _ _ hg)).trans hg
  have hp1 := h.below hal0 (Nat.le_refl _)
  obtain ⟨p1, hp1e⟩ : ∃ p, p = w.heap.size := ⟨_, rfl⟩
  have hcp1 : (w.alloc (.cells #[.slice none 0 0] 34)).cell? ⟨p1, 0, none⟩ = some (.slice none 0 0) := by
    rw [hp1e, cell_of_row _ _ 0 _ _ _ (heap_alloc_new w _)]; rfl
  obtain ⟨W, hW⟩ : ∃ W, W = (w.alloc (.cells #[.slice none 0 0] 34)) := ⟨_, rfl⟩
  rw [← hW] at hal0 hg0 hp1 hcp1
  have HNP := Lib.hid (fun W' (hb : Below W.heap.size W W') => normalp_any B A n c al W' (Nat.le_trans hB (Nat.le_trans hal0.size hb.size)) ((hp1.below hb (Nat.le_refl _)).wide hl) hn hl)
  have HDP := Lib.hid (fun (A' : Option Addr) (n' c' : Nat) W' (hb : Below W.heap.size W W') (hp : PolyC B W' A' n' c' (nf al)) => degree_bad B A' n' c' (nf al) z W' (Nat.le_trans hB (Nat.le_trans hal0.size hb.size)) (hp.wide (Nat.lt_of_le_of_lt (l1_nf al) hl)) (by have h3 := hp.len; have h4 := length_nf al; have h5 := h.len; omega) (Nat.lt_of_le_of_lt (l1_nf al) hl) hz)
  have HS := Lib.hid (show decide (1 ≤ zdeg (nf (nf al))) = false by rw [decide_eq_false_iff_not]; have := zdeg_small (nf (nf al)); omega)
  generalize zdeg (nf (nf al)) = y at *
  have hgl := World.block_lt_of_cell? _ _ hg0
  have hpl := World.block_lt_of_cell? _ _ hcp1
  have HBW := Lib.hid hal0
  clear hg h hp1 hal0 hz hl
  go_enter Tryz.func14, Tryz.ntmps14
  go_wp2_with fail
  rw [← hW, ← hp1e]
  clear hW hp1e
  go_loopw [5, 27] (fun v i wr => ∃ k : Nat, k ≤ 1 ∧ v = .slice none 0 0 ∧ i = .int .i64 k ∧ Below W.heap.size W wr) (fun _ i _ => 1 - (intOf i).toNat)
  case atStart => exact ⟨0, by omega, rfl, rfl, Below.refl _ _⟩
  case round =>
    obtain ⟨W0, rfl⟩ : ∃ y, y = wr := ⟨_, rfl⟩
    obtain ⟨k, hk, rfl, rfl, hb⟩ := hrel
    have hc0 := (hb.cell (p := ⟨g, 0, none⟩) hgl).trans hg0
    have hc1 := (hb.cell (p := ⟨p1, 0, none⟩) hpl).trans hcp1
    rcases Nat.eq_zero_or_pos k with rfl | hk1
    · go_wp2_with fail
      refine (HNP.out _ hb).mono ?_
      rintro e w1 ⟨A1, n1, c1, rfl, h1, hb1⟩
      have hal : Below w1.heap.size w1 (w1.alloc (.cells #[.slice A1 n1 c1] 27)) := (Below.refl _ _).alloc (Nat.le_refl _) _
      have hb2 := (hb.trans (hb1.mono hb.size)).trans (hal.mono (Nat.le_trans hb.size hb1.size))
      have HD := Lib.hid (HDP.out A1 n1 c1 _ hb2 (h1.below hal (Nat.le_refl _)))
      have HB2 := Lib.hid hb2
      have hs := HS.out
      clear hb hb1 hal hb2 h1 hc0 hc1
      go_wp2_with fail
      refine HD.out.mono ?_
      rintro e w2 ⟨rfl, hb3⟩
      have HB3 := Lib.hid (HB2.out.trans (hb3.mono HB2.out.size))
      clear hb3
      go_wp2
      go_roundw
      case rel => exact ⟨1, by omega, rfl, rfl, HB3.out⟩
      case measure => simp [intOf]
    · obtain rfl : k = 1 := by omega
      have HS2 := Lib.hid (sortf_nil W0 (.func (.func 44) #[] #[]))
      have HB3 := Lib.hid (HBW.out.trans (hb.mono HBW.out.size))
      clear hc0 hb
      go_wp2_with fail
      refine HS2.out.mono ?_
      rintro e w2 ⟨rfl, rfl⟩
      go_wp2
      go_loopw [53] (fun i wr => i = .int .i64 0 ∧ wr = W0) (fun _ _ => 0)
      case atStart => exact ⟨rfl, rfl⟩
      case round =>
        obtain ⟨rfl, rfl⟩ := hrel
        go_wp2
        go_loopw [107] (fun i wq => i = .int .i64 0 ∧ wq = wr) (fun _ _ => 0)
        case atStart => exact ⟨rfl, rfl⟩
        case round =>
          obtain ⟨rfl, rfl⟩ := hrel
          go_wp2
          go_ret
          exact ⟨rfl, HB3.out⟩
end Go.Proofs.YtnknidfpkmnncaaGreat
/- Calls at levels among many polynomials. -/
namespace Go.Proofs.YtnknidfpkmnncaaGreat
open Go.RowKit

theorem AllE.der {j E : Nat} (hj : j < 4) {al : List Tm} (h : AllE al E) : AllE (derL j al) E := fun p hp i hi => by
  obtain ⟨q, hq, rfl⟩ := List.mem_map.1 hp
  have h1 := h q (List.mem_filter.1 hq).1 i hi
  show (ex (shiftE j (-1) q.2) i).toNat ≤ E
  rw [ex_shift j hj (-1) q.2 i hi]
  split <;> omega
section
variable {B : Nat} {W w w' : World} {l : List PV} {e : Ending}
theorem Env.degree (h : Env B W w l) (i j : Nat) {x : PV} (hx : l[i]? = some x) (hb : x.okB = true) (hj : j < 4) :
    Calls Tryz.prog 9 #[.slice x.A x.n x.c, .int .i64 ((j : Int) + 1)] w (EnvV B W l (.int .i64 (degL j (nf x.al)))) := by
  obtain ⟨p1, n1, l1', e1⟩ := h.wide hx (PV.small_of hb)
  exact (degree_any B j x.A x.n x.c x.al w h.le p1 n1 l1' hj).mono fun e w' hp => h.valP hp
theorem Env.coef (h : Env B W w l) (i j : Nat) (d : Int) {x : PV} (hx : l[i]? = some x) (hb : x.okB = true) (hj : j < 4) :
    Calls Tryz.prog 10 #[.slice x.A x.n x.c, .int .i64 ((j : Int) + 1), .int .i64 d] w (EnvP B W l (coefL j d (nf x.al)) x.N x.L x.E) := by
  obtain ⟨p1, n1, l1', e1⟩ := h.wide hx (PV.small_of hb)
  have f := (h.all i x hx).2.nf
  exact (coef_any B j x.A x.n x.c x.al d w h.le p1 n1 l1' hj).mono fun e w' hp => h.polyP hp ⟨Nat.le_trans (coefL_len j d _) f.len, Nat.le_trans (l1_coefL j d _) f.l1, AllE.coef hj f.e, coefL_allV hj (nf_canon _)⟩
theorem Env.level (h : Env B W w l) (i : Nat) {x : PV} (hx : l[i]? = some x) (hb : x.okB = true) :
    Calls Tryz.prog 20 #[.slice x.A x.n x.c] w (EnvV B W l (.int .i64 ((levL (nf x.al) : Nat) : Int))) := by
  obtain ⟨p1, n1, l1', e1⟩ := h.wide hx (PV.small_of hb)
  exact (level_any B x.A x.n x.c x.al w h.le p1 n1 l1').mono fun e w' hp => h.valP hp
theorem Env.canonical (h : Env B W w l) (i : Nat) {x : PV} (hx : l[i]? = some x) (hb : x.okB = true) (hC : Canon x.al) :
    Calls Tryz.prog 16 #[.slice x.A x.n x.c] w (EnvV B W l (.bool true)) := by
  obtain ⟨p1, n1, l1', e1⟩ := h.wide hx (PV.small_of hb)
  exact (canonical_any B x.A x.n x.c x.al w h.le (h.all i x hx).1 (by unfold sortLim at n1; omega) hC l1').mono fun e w' hp => h.valP hp
theorem Env.deriv (h : Env B W w l) (i j : Nat) {x : PV} (hx : l[i]? = some x) (hb : x.okB = true) (hb2 : Nat.ble (x.L * x.E) 340282366920938463463374607431768211455 = true) (hj : j < 4) :
    Calls Tryz.prog 12 #[.slice x.A x.n x.c, .int .i64 ((j : Int) + 1)] w (EnvP B W l (nf (derL j (nf x.al))) x.N (x.L * x.E) x.E) := by
  obtain ⟨p1, n1, l1', e1⟩ := h.wide hx (PV.small_of hb)
  have f := (h.all i x hx).2
  have hle : l1 x.al * x.E ≤ x.L * x.E := Nat.mul_le_mul_right _ f.l1
  exact (deriv_any B j x.E x.A x.n x.c x.al w h.le p1 n1 l1' hj f.e (PV.small_of hb).2.2 (Nat.lt_of_le_of_lt hle (lt_big4 (of_blt hb2)))).mono fun e w' hp => h.polyP hp
    ⟨Nat.le_trans (length_nf _) (Nat.le_trans (derL_len j _) f.nf.len), Nat.le_trans (l1_nf _) (Nat.le_trans (derL_l1 hj f.nf.e) (Nat.mul_le_mul_right _ f.nf.l1)), (AllE.der hj f.nf.e).nf, AllV.nf _⟩
theorem Env.var' (h : Env B W w l) (j : Nat) (hj : j < 4) :
    Calls Tryz.prog 11 #[.int .i64 ((j : Int) + 1)] w (EnvP B W l (varL (j + 1)) 1 1 1) := by
  have h1 := h.var (j + 1) (by omega) (by omega)
  rw [show ((j + 1 : Nat) : Int) = (j : Int) + 1 by omega] at h1
  exact h1
theorem PV.Ok.re {x : PV} (h : x.Ok B w) {al : List Tm} {N L E : Nat} (he : x.al = al) (hf : Fit al N L E) : PV.Ok B w ⟨x.A, x.n, x.c, al, N, L, E⟩ := by
  subst he
  exact ⟨h.1, hf⟩
theorem Env.four (h : Env B W w l) {x0 x1 x2 x3 : PV} (h0 : x0.Ok B w) (h1 : x1.Ok B w) (h2 : x2.Ok B w) (h3 : x3.Ok B w) : Env B W w [x0, x1, x2, x3] :=
  ((((⟨fun i y hy => by simp at hy, h.bel, h.base⟩ : Env B W w []).push h3).push h2).push h1).push h0
theorem Env.degree_bad (h : Env B W w l) (i : Nat) (z : Int) {x : PV} (hx : l[i]? = some x) (hb : x.okB = true) (hz : z < 1 ∨ 4 < z) :
    Calls Tryz.prog 9 #[.slice x.A x.n x.c, .int .i64 z] w (EnvV B W l (.int .i64 (zdeg (nf x.al)))) := by
  obtain ⟨p1, n1, l1', e1⟩ := h.wide hx (PV.small_of hb)
  exact (Go.Proofs.YtnknidfpkmnncaaGreat.degree_bad B x.A x.n x.c x.al z w h.le p1 n1 l1' hz).mono fun e w' hp => h.valP hp
theorem Env.reducta_bad (h : Env B W w l) (i : Nat) (z : Int) {x : PV} (hx : l[i]? = some x) (hb : x.okB = true) (hz : z < 1 ∨ 4 < z) :
    Calls Tryz.prog 13 #[.slice x.A x.n x.c, .int .i64 z] w (EnvV B W l (.slice none 0 0)) := by
  obtain ⟨p1, n1, l1', e1⟩ := h.wide hx (PV.small_of hb)
  exact (Go.Proofs.YtnknidfpkmnncaaGreat.reducta_bad B x.A x.n x.c x.al z w h.le p1 n1 l1' hz).mono fun e w' hp => h.valP hp
theorem Env.project_bad (h : Env B W w l) (i : Nat) (z : Int) {x : PV} (hx : l[i]? = some x) (hb : x.okB = true) (hz : z < 1 ∨ 4 < z) :
    Calls Tryz.prog 14 #[.slice (some ⟨w.heap.size, 0, none⟩) 1 1, .int .i64 z] (w.alloc (.cells #[.slice x.A x.n x.c] 27)) (EnvV B W l (.slice none 0 0)) := by
  obtain ⟨p1, n1, l1', e1⟩ := h.wide hx (PV.small_of hb)
  have hal : Below w.heap.size w (w.alloc (.cells #[.slice x.A x.n x.c] 27)) := (Below.refl _ _).alloc (Nat.le_refl _) _
  have h' := h.next hal
  exact (Go.Proofs.YtnknidfpkmnncaaGreat.project_bad B w.heap.size x.A x.n x.c x.al z _ h'.le (by rw [cell_of_row _ _ 0 _ _ _ (heap_alloc_new w _)]; rfl) (h'.all i x hx).1 n1 l1' hz).mono fun e w' hp => h'.valP hp
end
end Go.Proofs.YtnknidfpkmnncaaGreat
/- CheckpolyParts: the law's walk. -/
namespace Go.Proofs.YtnknidfpkmnncaaGreat
open Go.RowKit

theorem fit_low {j : Nat} {k : Int} {al : List Tm} {N L E : Nat} (h : Fit al N L E) : Fit (lowL j k al) N L E :=
  ⟨Nat.le_trans (List.length_filter_le _ _) h.len, Nat.le_trans (l1_filter _ _) h.l1, fun p hp => h.e p (List.mem_filter.1 hp).1, fun p hp => h.v p (List.mem_filter.1 hp).1⟩
theorem fit_pow {j : Nat} (hj : j < 4) (k : Nat) (hk : k ≤ 5) : Fit (powL j k) 1 1 5 :=
  ⟨Nat.le_refl _, Nat.le_refl _, fun p hp i hi => by
    rw [List.mem_singleton.1 hp]
    show (ex (shiftE j k zE) i).toNat ≤ 5
    rw [ex_shift j hj k zE i hi]
    have hz : ex zE i = 0 := by
      match i, hi with
      | 0, _ => rfl
      | 1, _ => rfl
      | 2, _ => rfl
      | 3, _ => rfl
    rw [hz]
    split <;> omega, powL_allV hj (by omega)⟩
theorem fit_der {j : Nat} (hj : j < 4) {al : List Tm} {N L E : Nat} (h : Fit al N L E) : Fit (nf (derL j al)) N (L * E) E :=
  ⟨Nat.le_trans (length_nf _) (Nat.le_trans (derL_len j _) h.len), Nat.le_trans (l1_nf _) (Nat.le_trans (derL_l1 hj h.e) (Nat.mul_le_mul_right _ h.l1)), (AllE.der hj h.e).nf, AllV.nf _⟩

set_option maxRecDepth 100000 in
set_option maxHeartbeats 8000000 in
theorem parts_bad (B : Nat) (A0 : Option Addr) (n0 c0 : Nat) (L0 : List Mono) (z : Int) (w : World) (hB : B ≤ w.heap.size) (m0 : MonoR B w A0 n0 c0 L0) (_b0 : n0 ≤ 9223372036854775807) (z0 : -128 ≤ z) (z1 : z ≤ 127) (hz : z < 1 ∨ 4 < z) :
    Calls Tryz.prog 3 #[.slice A0 n0 c0, .int .i8 z] w (ValP (.bool true) w) := by
  have E0 := Env.start (w := w) hB
  have hwz : IntKind.i64.wrap z = z := IntWalk.i64_in _ (by omega)
  go_enter Tryz.func3, Tryz.ntmps3
  have H := Lib.hid (E0.awake)
  go_wp2_with fail
  refine H.out.mono ?_
  rintro e w1 ⟨rfl, E1⟩
  clear H E0
  have H := Lib.hid (E1.few m0 6 4 (by omega) (by omega) (by omega))
  go_wp2_with fail
  refine H.out.mono ?_
  rintro e w2 ⟨f0, rfl, hf0, E2⟩
  clear H E1
  cases f0
  · have H := Lib.hid E2.awake
    go_wp2_with fail
    refine H.out.mono ?_
    rintro e wz ⟨rfl, Ez⟩
    go_wp2
    go_ret
    exact ⟨rfl, Ez.bel⟩
  have g0 := hf0.out.1 (by simp)
  clear hf0
  have H := Lib.hid (E2.poly2 m0 6 768 4 g0.1 (by omega) (by omega) g0.2)
  go_wp2_with fail
  refine H.out.mono ?_
  rintro e w3 ⟨A3, k3, c3, rfl, E3⟩
  clear H E2
  clear m0 g0
  have H := Lib.hid (E3.normal' (i := 0) rfl (by kernel_rfl))
  go_wp2_with fail
  refine H.out.mono ?_
  rintro e w4 ⟨A4, k4, c4, rfl, E4⟩
  clear H E3
  have HZ := Lib.hid hz
  have hlen := (E4.n_le (i := 0) rfl).2
  dsimp only at hlen
  replace E4 := E4.tail
  rcases Nat.eq_zero_or_pos k4 with hk0 | hk0
  · rcases hz with hzz | hzz
    · skip
      have hd := E4.degree_bad 0 z rfl (by kernel_rfl) HZ.out
      dsimp only at hd
      rw [show zdeg (nf L0) = -1 from by unfold zdeg; rw [hlen]; rw [if_pos hk0]] at hd
      have HD := Lib.hid hd
      clear hd
      have hkq : ((k4 : Int) == 0) = true := by rw [hk0]; rfl
      have t1 : decide (z < 1) = true := by rw [decide_eq_true_eq]; exact hzz
      clear hzz hlen
      go_wp2_with fail
      refine HD.out.mono ?_
      rintro e w5 ⟨rfl, E5⟩
      clear HD E4
      have HP := Lib.hid (coef_bad A3 k3 c3 z 0 w5 HZ.out)
      go_wp2_with fail
      refine HP.out.mono ?_
      rintro e w6 ⟨rfl, hb6⟩
      have E6 := E5.next hb6
      clear HP E5 hb6
      have HP := Lib.hid (var_bad z w6 HZ.out)
      go_wp2_with fail
      refine HP.out.mono ?_
      rintro e w7 ⟨rfl, hb7⟩
      have E7 := E6.next hb7
      clear HP E6 hb7
      have HP := Lib.hid (deriv_bad A3 k3 c3 z w7 HZ.out)
      go_wp2_with fail
      refine HP.out.mono ?_
      rintro e w8 ⟨rfl, hb8⟩
      have E8 := E7.next hb8
      clear HP E7 hb8
      have H := Lib.hid (E8.reducta_bad 0 z rfl (by kernel_rfl) HZ.out)
      go_wp2_with fail
      refine H.out.mono ?_
      rintro e w9 ⟨rfl, E9⟩
      clear H E8
      have H := Lib.hid (E9.project_bad 0 z rfl (by kernel_rfl) HZ.out)
      go_wp2_with fail
      refine H.out.mono ?_
      rintro e w10 ⟨rfl, E10⟩
      clear H E9
      have HB := Lib.hid E10.bel
      clear E10
      go_wp2
      go_ret
      exact ⟨rfl, HB.out⟩
    · skip
      have hd := E4.degree_bad 0 z rfl (by kernel_rfl) HZ.out
      dsimp only at hd
      rw [show zdeg (nf L0) = -1 from by unfold zdeg; rw [hlen]; rw [if_pos hk0]] at hd
      have HD := Lib.hid hd
      clear hd
      have hkq : ((k4 : Int) == 0) = true := by rw [hk0]; rfl
      have t1 : decide (z < 1) = false := by rw [decide_eq_false_iff_not]; omega
      have t2 : decide (4 < z) = true := by rw [decide_eq_true_eq]; exact hzz
      clear hzz hlen
      go_wp2_with fail
      refine HD.out.mono ?_
      rintro e w5 ⟨rfl, E5⟩
      clear HD E4
      have HP := Lib.hid (coef_bad A3 k3 c3 z 0 w5 HZ.out)
      go_wp2_with fail
      refine HP.out.mono ?_
      rintro e w6 ⟨rfl, hb6⟩
      have E6 := E5.next hb6
      clear HP E5 hb6
      have HP := Lib.hid (var_bad z w6 HZ.out)
      go_wp2_with fail
      refine HP.out.mono ?_
      rintro e w7 ⟨rfl, hb7⟩
      have E7 := E6.next hb7
      clear HP E6 hb7
      have HP := Lib.hid (deriv_bad A3 k3 c3 z w7 HZ.out)
      go_wp2_with fail
      refine HP.out.mono ?_
      rintro e w8 ⟨rfl, hb8⟩
      have E8 := E7.next hb8
      clear HP E7 hb8
      have H := Lib.hid (E8.reducta_bad 0 z rfl (by kernel_rfl) HZ.out)
      go_wp2_with fail
      refine H.out.mono ?_
      rintro e w9 ⟨rfl, E9⟩
      clear H E8
      have H := Lib.hid (E9.project_bad 0 z rfl (by kernel_rfl) HZ.out)
      go_wp2_with fail
      refine H.out.mono ?_
      rintro e w10 ⟨rfl, E10⟩
      clear H E9
      have HB := Lib.hid E10.bel
      clear E10
      go_wp2
      go_ret
      exact ⟨rfl, HB.out⟩
  · rcases hz with hzz | hzz
    · skip
      have hd := E4.degree_bad 0 z rfl (by kernel_rfl) HZ.out
      dsimp only at hd
      rw [show zdeg (nf L0) = 0 from by unfold zdeg; rw [hlen]; rw [if_neg (by omega)]] at hd
      have HD := Lib.hid hd
      clear hd
      have hkq : ((k4 : Int) == 0) = false := by rw [beq_eq_false_iff_ne]; omega
      have t1 : decide (z < 1) = true := by rw [decide_eq_true_eq]; exact hzz
      clear hzz hlen
      go_wp2_with fail
      refine HD.out.mono ?_
      rintro e w5 ⟨rfl, E5⟩
      clear HD E4
      have HP := Lib.hid (coef_bad A3 k3 c3 z 0 w5 HZ.out)
      go_wp2_with fail
      refine HP.out.mono ?_
      rintro e w6 ⟨rfl, hb6⟩
      have E6 := E5.next hb6
      clear HP E5 hb6
      have HP := Lib.hid (var_bad z w6 HZ.out)
      go_wp2_with fail
      refine HP.out.mono ?_
      rintro e w7 ⟨rfl, hb7⟩
      have E7 := E6.next hb7
      clear HP E6 hb7
      have HP := Lib.hid (deriv_bad A3 k3 c3 z w7 HZ.out)
      go_wp2_with fail
      refine HP.out.mono ?_
      rintro e w8 ⟨rfl, hb8⟩
      have E8 := E7.next hb8
      clear HP E7 hb8
      have H := Lib.hid (E8.reducta_bad 0 z rfl (by kernel_rfl) HZ.out)
      go_wp2_with fail
      refine H.out.mono ?_
      rintro e w9 ⟨rfl, E9⟩
      clear H E8
      have H := Lib.hid (E9.project_bad 0 z rfl (by kernel_rfl) HZ.out)
      go_wp2_with fail
      refine H.out.mono ?_
      rintro e w10 ⟨rfl, E10⟩
      clear H E9
      have HB := Lib.hid E10.bel
      clear E10
      go_wp2
      go_ret
      exact ⟨rfl, HB.out⟩
    · skip
      have hd := E4.degree_bad 0 z rfl (by kernel_rfl) HZ.out
      dsimp only at hd
      rw [show zdeg (nf L0) = 0 from by unfold zdeg; rw [hlen]; rw [if_neg (by omega)]] at hd
      have HD := Lib.hid hd
      clear hd
      have hkq : ((k4 : Int) == 0) = false := by rw [beq_eq_false_iff_ne]; omega
      have t1 : decide (z < 1) = false := by rw [decide_eq_false_iff_not]; omega
      have t2 : decide (4 < z) = true := by rw [decide_eq_true_eq]; exact hzz
      clear hzz hlen
      go_wp2_with fail
      refine HD.out.mono ?_
      rintro e w5 ⟨rfl, E5⟩
      clear HD E4
      have HP := Lib.hid (coef_bad A3 k3 c3 z 0 w5 HZ.out)
      go_wp2_with fail
      refine HP.out.mono ?_
      rintro e w6 ⟨rfl, hb6⟩
      have E6 := E5.next hb6
      clear HP E5 hb6
      have HP := Lib.hid (var_bad z w6 HZ.out)
      go_wp2_with fail
      refine HP.out.mono ?_
      rintro e w7 ⟨rfl, hb7⟩
      have E7 := E6.next hb7
      clear HP E6 hb7
      have HP := Lib.hid (deriv_bad A3 k3 c3 z w7 HZ.out)
      go_wp2_with fail
      refine HP.out.mono ?_
      rintro e w8 ⟨rfl, hb8⟩
      have E8 := E7.next hb8
      clear HP E7 hb8
      have H := Lib.hid (E8.reducta_bad 0 z rfl (by kernel_rfl) HZ.out)
      go_wp2_with fail
      refine H.out.mono ?_
      rintro e w9 ⟨rfl, E9⟩
      clear H E8
      have H := Lib.hid (E9.project_bad 0 z rfl (by kernel_rfl) HZ.out)
      go_wp2_with fail
      refine H.out.mono ?_
      rintro e w10 ⟨rfl, E10⟩
      clear H E9
      have HB := Lib.hid E10.bel
      clear E10
      go_wp2
      go_ret
      exact ⟨rfl, HB.out⟩
end Go.Proofs.YtnknidfpkmnncaaGreat
/- CheckpolyParts: the walk at a level that there is. -/
namespace Go.Proofs.YtnknidfpkmnncaaGreat
open Go.RowKit

set_option maxRecDepth 100000 in
set_option maxHeartbeats 16000000 in
theorem parts_good (B : Nat) (A0 : Option Addr) (n0 c0 : Nat) (L0 : List Mono) (j : Nat) (w : World) (hB : B ≤ w.heap.size) (m0 : MonoR B w A0 n0 c0 L0) (_b0 : n0 ≤ 9223372036854775807) (hj : j < 4) :
    Calls Tryz.prog 3 #[.slice A0 n0 c0, .int .i8 ((j : Int) + 1)] w (ValP (.bool true) w) := by
  have E0 := Env.start (w := w) hB
  have hwz : IntKind.i64.wrap ((j : Int) + 1) = (j : Int) + 1 := IntWalk.i64_in _ (by omega)
  have t1 : decide ((j : Int) + 1 < 1) = false := by rw [decide_eq_false_iff_not]; omega
  have t2 : decide (4 < (j : Int) + 1) = false := by rw [decide_eq_false_iff_not]; omega
  go_enter Tryz.func3, Tryz.ntmps3
  have H := Lib.hid (E0.awake)
  go_wp2_with fail
  refine H.out.mono ?_
  rintro e w1 ⟨rfl, E1⟩
  clear H E0
  have H := Lib.hid (E1.few m0 6 4 (by omega) (by omega) (by omega))
  go_wp2_with fail
  refine H.out.mono ?_
  rintro e w2 ⟨f0, rfl, hf0, E2⟩
  clear H E1
  cases f0
  · have H := Lib.hid E2.awake
    go_wp2_with fail
    refine H.out.mono ?_
    rintro e wz ⟨rfl, Ez⟩
    go_wp2
    go_ret
    exact ⟨rfl, Ez.bel⟩
  have g0 := hf0.out.1 (by simp)
  clear hf0
  have H := Lib.hid (E2.poly2 m0 6 768 4 g0.1 (by omega) (by omega) g0.2)
  go_wp2_with fail
  refine H.out.mono ?_
  rintro e w3 ⟨A3, k3, c3, rfl, E3⟩
  clear H E2
  clear m0 g0
  have H := Lib.hid (E3.normal' (i := 0) rfl (by kernel_rfl))
  go_wp2_with fail
  refine H.out.mono ?_
  rintro e w4 ⟨A4, k4, c4, rfl, E4⟩
  clear H E3
  replace E4 := E4.tail
  have HF0 := Lib.hid (E4.all 0 _ rfl).2
  have HCA := Lib.hid (nf_canon L0)
  obtain ⟨a, ha⟩ : ∃ a, a = nf L0 := ⟨_, rfl⟩
  have HA := Lib.hid ha
  have HFA := Lib.hid (show Fit a 6 768 4 by rw [ha]; exact HF0.out.nf)
  rw [← ha] at HCA
  clear ha
  have H := Lib.hid (E4.num 1 1 (by decide) (by omega))
  go_wp2_with fail
  refine H.out.mono ?_
  rintro e w5 ⟨A5, k5, c5, rfl, E5⟩
  clear H E4
  have hsum : PV.Ok B w5 ⟨none, 0, 0, lowL j ((0 : Nat) : Int) a, 6, 768, 4⟩ := ⟨by rw [show ((0 : Nat) : Int) = 0 from rfl, lowL_zero hj HCA.out.allV]; exact PolyC.nil, fit_low HFA.out⟩
  have hslo : PV.Ok B w5 ⟨none, 0, 0, lowL j ((0 : Nat) : Int) (nf (derL j a)), 6, 3072, 4⟩ := ⟨by rw [show ((0 : Nat) : Int) = 0 from rfl, lowL_zero hj (AllV.nf _)]; exact PolyC.nil, fit_low (fit_der hj HFA.out)⟩
  have hpow : PV.Ok B w5 ⟨A5, k5, c5, powL j (0 : Nat), 1, 1, 5⟩ := (E5.all 0 _ rfl).re (powL_zero hj) (fit_pow hj 0 (by omega))
  have Es := E5.four hpow hslo hsum (E5.all 1 _ rfl)
  have HDG := Lib.hid (show (-1 : Int) = degL j (lowL j ((0 : Nat) : Int) a) by rw [show ((0 : Nat) : Int) = 0 from rfl, lowL_zero hj HCA.out.allV]; rfl)
  clear hsum hslo hpow E5
  go_wp2_with fail
  go_loopw [9, 10, 11, 12, 13] (fun sv lv pv dv kv wr => ∃ (k : Nat) (As : Option Addr) (ns cs : Nat) (Al : Option Addr) (nl cl : Nat) (Ap : Option Addr) (np cp : Nat) (dg : Int), k ≤ 5 ∧ kv = .int .i64 k ∧ sv = .slice As ns cs ∧ lv = .slice Al nl cl ∧ pv = .slice Ap np cp ∧ dv = .int .i64 dg ∧ Env B w wr [⟨Ap, np, cp, powL j k, 1, 1, 5⟩, ⟨Al, nl, cl, lowL j k (nf (derL j a)), 6, 3072, 4⟩, ⟨As, ns, cs, lowL j k a, 6, 768, 4⟩, ⟨A3, k3, c3, L0, 6, 768, 4⟩] ∧ Hid (dg = degL j (lowL j k a))) (fun _ _ _ _ kv _ => 5 - (intOf kv).toNat)
  case atStart => exact ⟨0, none, 0, 0, none, 0, 0, A5, k5, c5, -1, by omega, rfl, rfl, rfl, rfl, rfl, Es, HDG⟩
  case round =>
    obtain ⟨W0, rfl⟩ : ∃ y, y = wr := ⟨_, rfl⟩
    clear Es HDG
    obtain ⟨k, As, ns, cs, Al, nl, cl, Ap, np, cp, dg, hk, rfl, rfl, rfl, rfl, rfl, EL, HDG⟩ := hrel
    by_cases hk5 : k < 5
    · have q1 : decide ((k : Int) ≤ 4) = true := by rw [decide_eq_true_eq]; omega
      have q2 : (k : Int) ≤ 4 := by omega
      have H := Lib.hid (EL.coef 3 j (k : Int) rfl (by kernel_rfl) hj)
      go_wp2_with fail
      refine H.out.mono ?_
      rintro e w6 ⟨A6, k6, c6, rfl, E6⟩
      clear H EL
      replace E6 := E6
      have HCN := Lib.hid (coefL_canon (d := (k : Int)) hj HCA.out)
      have hAL : nf L0 = a := HA.out.symm
      rw [hAL] at E6
      have H := Lib.hid (E6.canonical 0 rfl (by kernel_rfl) HCN.out)
      go_wp2_with fail
      refine H.out.mono ?_
      rintro e w7 ⟨rfl, E7⟩
      clear H E6
      have hcl := (E7.n_le (i := 0) rfl).2
      dsimp only at hcl
      have HCL := Lib.hid hcl
      clear hcl hAL
      rcases Nat.eq_zero_or_pos k6 with hc0 | hc0
      · obtain rfl := hc0
        have HN := Lib.hid (show coefL j (k : Int) a = [] from List.eq_nil_of_length_eq_zero HCL.out)
        have H := Lib.hid (E7.mul2 0 1 6 768 9 rfl rfl (by kernel_rfl))
        go_wp2_with fail
        refine H.out.mono ?_
        rintro e w8 ⟨A8, k8, c8, rfl, E8⟩
        clear H E7
        have H := Lib.hid (E8.add3 4 0 12 1536 9 rfl rfl (by kernel_rfl) (by kernel_rfl))
        go_wp2_with fail
        refine H.out.mono ?_
        rintro e w9 ⟨A9, k9, c9, rfl, E9⟩
        clear H E8
        have H := Lib.hid (E9.num ((k : Int) + 1) 5 (by omega) (by omega))
        go_wp2_with fail
        refine H.out.mono ?_
        rintro e w10 ⟨A10, k10, c10, rfl, E10⟩
        clear H E9
        have H := Lib.hid (E10.coef 7 j ((k : Int) + 1) rfl (by kernel_rfl) hj)
        go_wp2_with fail
        refine H.out.mono ?_
        rintro e w11 ⟨A11, k11, c11, rfl, E11⟩
        clear H E10
        rw [show nf L0 = a from HA.out.symm] at E11
        have H := Lib.hid (E11.mul2 1 0 6 3840 4 rfl rfl (by kernel_rfl))
        go_wp2_with fail
        refine H.out.mono ?_
        rintro e w12 ⟨A12, k12, c12, rfl, E12⟩
        clear H E11
        have H := Lib.hid (E12.mul2 0 6 6 3840 9 rfl rfl (by kernel_rfl))
        go_wp2_with fail
        refine H.out.mono ?_
        rintro e w13 ⟨A13, k13, c13, rfl, E13⟩
        clear H E12
        have H := Lib.hid (E13.add3 8 0 12 6912 9 rfl rfl (by kernel_rfl) (by kernel_rfl))
        go_wp2_with fail
        refine H.out.mono ?_
        rintro e w14 ⟨A14, k14, c14, rfl, E14⟩
        clear H E13
        have H := Lib.hid (E14.var' j hj)
        go_wp2_with fail
        refine H.out.mono ?_
        rintro e w15 ⟨A15, k15, c15, rfl, E15⟩
        clear H E14
        have H := Lib.hid (E15.mul2 9 0 1 1 6 rfl rfl (by kernel_rfl))
        go_wp2_with fail
        refine H.out.mono ?_
        rintro e w16 ⟨A16, k16, c16, rfl, E16⟩
        clear H E15
        have o0 := (E16.all 0 _ rfl).re (al := powL j ((k + 1 : Nat) : Int)) ((powL_succ hj (by omega)).trans (by rw [show (k : Int) + 1 = ((k + 1 : Nat) : Int) by omega])) (fit_pow hj (k + 1) (by omega))
        have o1 := (E16.all 2 _ rfl).re (al := lowL j ((k + 1 : Nat) : Int) (nf (derL j a))) ((slope_step hj (by omega) HCA.out).trans (by rw [show (k : Int) + 1 = ((k + 1 : Nat) : Int) by omega])) (fit_low (fit_der hj HFA.out))
        have o2 := (E16.all 7 _ rfl).re (al := lowL j ((k + 1 : Nat) : Int) a) ((low_step hj (by omega) HCA.out).trans (by rw [show (k : Int) + 1 = ((k + 1 : Nat) : Int) by omega])) (fit_low HFA.out)
        have En := E16.four o0 o1 o2 (E16.all 13 _ rfl)
        clear o0 o1 o2 E16
        go_wp2
        go_roundw
        case rel => exact ⟨k + 1, _, _, _, _, _, _, _, _, _, dg, by omega, by go_num, rfl, rfl, rfl, rfl, En, Lib.hid (by rw [show ((k + 1 : Nat) : Int) = (k : Int) + 1 by omega, deg_low_none HN.out]; exact HDG.out)⟩
        case measure => simp [intOf]; omega
      · have q3 : decide ((0 : Int) < (k6 : Int)) = true := by rw [decide_eq_true_eq]; omega
        have HN := Lib.hid (show coefL j (k : Int) a ≠ [] from fun he => by have h8 := HCL.out; rw [he] at h8; simp at h8; omega)
        have hdz := E7.degree 0 j rfl (by kernel_rfl) hj
        dsimp only at hdz
        rw [nf_of_canon HCN.out, deg_coef hj HN.out] at hdz
        have HDZ := Lib.hid hdz
        clear hdz
        go_wp2_with fail
        refine HDZ.out.mono ?_
        rintro e w8 ⟨rfl, E8⟩
        clear HDZ E7
        have H := Lib.hid (E8.mul2 0 1 6 768 9 rfl rfl (by kernel_rfl))
        go_wp2_with fail
        refine H.out.mono ?_
        rintro e w9 ⟨A9, k9, c9, rfl, E9⟩
        clear H E8
        have H := Lib.hid (E9.add3 4 0 12 1536 9 rfl rfl (by kernel_rfl) (by kernel_rfl))
        go_wp2_with fail
        refine H.out.mono ?_
        rintro e w10 ⟨A10, k10, c10, rfl, E10⟩
        clear H E9
        have H := Lib.hid (E10.num ((k : Int) + 1) 5 (by omega) (by omega))
        go_wp2_with fail
        refine H.out.mono ?_
        rintro e w11 ⟨A11, k11, c11, rfl, E11⟩
        clear H E10
        have H := Lib.hid (E11.coef 7 j ((k : Int) + 1) rfl (by kernel_rfl) hj)
        go_wp2_with fail
        refine H.out.mono ?_
        rintro e w12 ⟨A12, k12, c12, rfl, E12⟩
        clear H E11
        rw [show nf L0 = a from HA.out.symm] at E12
        have H := Lib.hid (E12.mul2 1 0 6 3840 4 rfl rfl (by kernel_rfl))
        go_wp2_with fail
        refine H.out.mono ?_
        rintro e w13 ⟨A13, k13, c13, rfl, E13⟩
        clear H E12
        have H := Lib.hid (E13.mul2 0 6 6 3840 9 rfl rfl (by kernel_rfl))
        go_wp2_with fail
        refine H.out.mono ?_
        rintro e w14 ⟨A14, k14, c14, rfl, E14⟩
        clear H E13
        have H := Lib.hid (E14.add3 8 0 12 6912 9 rfl rfl (by kernel_rfl) (by kernel_rfl))
        go_wp2_with fail
        refine H.out.mono ?_
        rintro e w15 ⟨A15, k15, c15, rfl, E15⟩
        clear H E14
        have H := Lib.hid (E15.var' j hj)
        go_wp2_with fail
        refine H.out.mono ?_
        rintro e w16 ⟨A16, k16, c16, rfl, E16⟩
        clear H E15
        have H := Lib.hid (E16.mul2 9 0 1 1 6 rfl rfl (by kernel_rfl))
        go_wp2_with fail
        refine H.out.mono ?_
        rintro e w17 ⟨A17, k17, c17, rfl, E17⟩
        clear H E16
        have o0 := (E17.all 0 _ rfl).re (al := powL j ((k + 1 : Nat) : Int)) ((powL_succ hj (by omega)).trans (by rw [show (k : Int) + 1 = ((k + 1 : Nat) : Int) by omega])) (fit_pow hj (k + 1) (by omega))
        have o1 := (E17.all 2 _ rfl).re (al := lowL j ((k + 1 : Nat) : Int) (nf (derL j a))) ((slope_step hj (by omega) HCA.out).trans (by rw [show (k : Int) + 1 = ((k + 1 : Nat) : Int) by omega])) (fit_low (fit_der hj HFA.out))
        have o2 := (E17.all 7 _ rfl).re (al := lowL j ((k + 1 : Nat) : Int) a) ((low_step hj (by omega) HCA.out).trans (by rw [show (k : Int) + 1 = ((k + 1 : Nat) : Int) by omega])) (fit_low HFA.out)
        have En := E17.four o0 o1 o2 (E17.all 13 _ rfl)
        clear o0 o1 o2 E17
        go_wp2
        go_roundw
        case rel => exact ⟨k + 1, _, _, _, _, _, _, _, _, _, (k : Int), by omega, by go_num, rfl, rfl, rfl, rfl, En, Lib.hid (by rw [show ((k + 1 : Nat) : Int) = (k : Int) + 1 by omega]; exact (deg_low_some (by omega) HN.out).symm)⟩
        case measure => simp [intOf]; omega
    · obtain rfl : k = 5 := by omega
      have HDG2 := Lib.hid (show dg = degL j a by have h8 := HDG.out; rw [show ((5 : Nat) : Int) = 5 from rfl, lowL_all (E := 4) hj HFA.out.e (by omega)] at h8; exact h8)
      have o1 := (EL.all 1 _ rfl).re (al := nf (derL j a)) (lowL_all (E := 4) hj (fit_der hj HFA.out).e (by omega)) (fit_der hj HFA.out)
      have o2 := (EL.all 2 _ rfl).re (al := a) (lowL_all (E := 4) hj HFA.out.e (by omega)) HFA.out
      have Em := EL.four (EL.all 0 _ rfl) o1 o2 (EL.all 3 _ rfl)
      clear o1 o2 EL HDG
      go_wp2_with fail
      go_loopw [15, 16] (fun tv kv wr => ∃ k : Nat, k ≤ 4 ∧ kv = .int .i64 ((k : Int) + 1) ∧ tv = .int .i64 ((topK a k : Nat) : Int) ∧ Env B w wr [⟨Ap, np, cp, powL j (5 : Nat), 1, 1, 5⟩, ⟨Al, nl, cl, nf (derL j a), 6, 768 * 4, 4⟩, ⟨As, ns, cs, a, 6, 768, 4⟩, ⟨A3, k3, c3, L0, 6, 768, 4⟩]) (fun _ kv _ => 5 - (intOf kv).toNat)
      case atStart => exact ⟨0, by omega, rfl, rfl, Em⟩
      case round =>
        obtain ⟨W1, rfl⟩ : ∃ y, y = wr := ⟨_, rfl⟩
        clear Em
        obtain ⟨k, hk, rfl, rfl, EL⟩ := hrel
        by_cases hk4 : k < 4
        · have q1 : decide ((k : Int) + 1 ≤ 4) = true := by rw [decide_eq_true_eq]; omega
          have q2 : (k : Int) + 1 ≤ 4 := by omega
          have hdz := EL.degree 3 k rfl (by kernel_rfl) hk4
          dsimp only at hdz
          rw [show nf L0 = a from HA.out.symm] at hdz
          have HDZ := Lib.hid hdz
          clear hdz
          by_cases hd : 0 < degL k a
          · have HT := Lib.hid (show topK a (k + 1) = k + 1 by unfold topK; rw [if_pos hd])
            have hd1 : decide (0 < degL k a) = true := by rw [decide_eq_true_eq]; exact hd
            generalize degL k a = y at *
            go_wp2_with fail
            refine HDZ.out.mono ?_
            rintro e w9 ⟨rfl, E9⟩
            clear HDZ EL
            go_wp2
            go_roundw
            case rel => exact ⟨k + 1, by omega, by go_num, by rw [HT.out]; go_num, E9⟩
            case measure => simp [intOf]; omega
          · have HT := Lib.hid (show topK a (k + 1) = topK a k by rw [topK, if_neg hd])
            have hd1 : decide (0 < degL k a) = false := by rw [decide_eq_false_iff_not]; exact hd
            generalize degL k a = y at *
            go_wp2_with fail
            refine HDZ.out.mono ?_
            rintro e w9 ⟨rfl, E9⟩
            clear HDZ EL
            go_wp2
            go_roundw
            case rel => exact ⟨k + 1, by omega, by go_num, by rw [HT.out], E9⟩
            case measure => simp [intOf]; omega
        · obtain rfl : k = 4 := by omega
          have H := Lib.hid (EL.normal' (i := 3) rfl (by kernel_rfl))
          go_wp2_with fail
          refine H.out.mono ?_
          rintro e w61 ⟨A61, k61, c61, rfl, E61⟩
          clear H EL
          have HAA := Lib.hid HA.out.symm
          have H := Lib.hid (E61.equal_yes (i := 3) (j := 0) rfl rfl (by kernel_rfl) (by kernel_rfl) HA.out)
          go_wp2_with fail
          refine H.out.mono ?_
          rintro e w62 ⟨rfl, E62⟩
          clear H E61
          have hdv := E62.deriv 4 j rfl (by kernel_rfl) (by kernel_rfl) hj
          dsimp only at hdv
          rw [show nf L0 = a from HA.out.symm] at hdv
          have HDV := Lib.hid hdv
          clear hdv
          go_wp2_with fail
          refine HDV.out.mono ?_
          rintro e w63 ⟨A63, k63, c63, rfl, E63⟩
          clear HDV E62
          have H := Lib.hid (E63.equal_yes (i := 3) (j := 0) rfl rfl (by kernel_rfl) (by kernel_rfl) rfl)
          go_wp2_with fail
          refine H.out.mono ?_
          rintro e w64 ⟨rfl, E64⟩
          clear H E63
          have hv := E64.degree 5 j rfl (by kernel_rfl) hj
          dsimp only at hv
          rw [show nf L0 = a from HA.out.symm, ← HDG2.out] at hv
          have HV := Lib.hid hv
          clear hv
          go_wp2_with fail
          refine HV.out.mono ?_
          rintro e w65 ⟨rfl, E65⟩
          clear HV E64
          have hv := E65.level 5 rfl (by kernel_rfl)
          dsimp only at hv
          rw [show nf L0 = a from HA.out.symm, levL_top] at hv
          have HV := Lib.hid hv
          clear hv
          go_wp2_with fail
          refine HV.out.mono ?_
          rintro e w66 ⟨rfl, E66⟩
          clear HV E65
          generalize topK a 4 = tp at *
          have H := Lib.hid (E66.coef 5 j (-1) rfl (by kernel_rfl) hj)
          go_wp2_with fail
          refine H.out.mono ?_
          rintro e w67 ⟨A67, k67, c67, rfl, E67⟩
          clear H E66
          obtain rfl : k67 = 0 := by
            have h8 := (E67.n_le (i := 0) rfl).2
            dsimp only at h8
            rw [show coefL j (-1) (nf L0) = [] from coefL_nil_iff.2 fun p hp he => by have h9 := validE_iff.1 ((nf_canon L0).2 p hp).2 j hj; omega] at h8
            exact h8.symm
          have HB := Lib.hid E67.bel
          clear E67
          go_wp2
          go_ret
          exact ⟨rfl, HB.out⟩
theorem partsLaw_any (B : Nat) (A0 : Option Addr) (n0 c0 : Nat) (L0 : List Mono) (z : Int) (w : World) (hB : B ≤ w.heap.size) (m0 : MonoR B w A0 n0 c0 L0) (_b0 : n0 ≤ 9223372036854775807) (z0 : -128 ≤ z) (z1 : z ≤ 127) :
    Calls Tryz.prog 3 #[.slice A0 n0 c0, .int .i8 z] w (ValP (.bool true) w) := by
  by_cases hz : z < 1 ∨ 4 < z
  · exact parts_bad B A0 n0 c0 L0 z w hB m0 _b0 z0 z1 hz
  · obtain ⟨j, rfl, hj⟩ : ∃ j : Nat, z = (j : Int) + 1 ∧ j < 4 := ⟨(z - 1).toNat, by omega, by omega⟩
    exact parts_good B A0 n0 c0 L0 j w hB m0 _b0 hj
end Go.Proofs.YtnknidfpkmnncaaGreat
