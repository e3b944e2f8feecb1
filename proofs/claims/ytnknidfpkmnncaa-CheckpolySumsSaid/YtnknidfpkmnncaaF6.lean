/- The law's Canonical, is, num. -/
import Derived.Test.YtnknidfpkmnncaaF5
namespace Go.Proofs.Ytnknidfpkmnncaa
open Go.RowKit

/-- The cells that Canonical's test reads at the first term. -/
abbrev HeldQ (w' : World) (g b o : Nat) (neg : Bool) (A : Option Addr) (n c : Nat) (A2 : Option Addr) (n2 c2 : Nat) : Prop :=
  w'.cell? ⟨g, 0, none⟩ = some (.bool neg) ∧ w'.cell? ⟨g, 1, none⟩ = some (.slice A n c) ∧ w'.cell? ⟨b, o, none⟩ = some (.bool neg) ∧ w'.cell? ⟨b, o + 1, none⟩ = some (.slice A2 n2 c2)
theorem heldQ_below {w w' : World} {g b o : Nat} {neg : Bool} {A : Option Addr} {n c : Nat} {A2 : Option Addr} {n2 c2 : Nat} (h : HeldQ w g b o neg A n c A2 n2 c2) (hb : Below w.heap.size w w') (hg : g < w.heap.size) (hlt : b < w.heap.size) : HeldQ w' g b o neg A n c A2 n2 c2 := by
  obtain ⟨hc, _⟩ := bcell hb
  unfold HeldQ
  rw [hc _ _ hg, hc _ _ hg, hc _ _ hlt, hc _ _ hlt]
  exact h

set_option maxRecDepth 100000 in
set_option maxHeartbeats 4000000 in
theorem canonical_any (B : Nat) (A : Option Addr) (n c : Nat) (al : List Tm) (w : World) (hB : B ≤ w.heap.size) (h : PolyC B w A n c al) (hn : n ≤ 1073741824) (hC : Canon al) (hl : l1 al < big) :
    Calls Try.prog 23 #[.slice A n c] w (ValP (.bool true) w) := by
  have hcap := h.cap
  have HC := Lib.hid hC
  have HL := Lib.hid hl
  clear hC hl
  go_enter Try.func23, Try.ntmps23
  go_wp2_with fail
  go_loopw [3] (fun i wr => ∃ k : Nat, k ≤ n ∧ i = .int .i64 k ∧ Below w.heap.size w wr) (fun i _ => n - (intOf i).toNat)
  case atStart => exact ⟨0, Nat.zero_le _, rfl, Below.refl _ _⟩
  case round =>
    obtain ⟨W0, rfl⟩ : ∃ y, y = wr := ⟨_, rfl⟩
    obtain ⟨k, hk, rfl, hb⟩ := hrel
    by_cases hkn : k < n
    · obtain ⟨b, off, rfl, hs1, HT⟩ := h.term (by omega)
      obtain ⟨t, p, hp, hte, hcf, hh2, hh4⟩ := HT k hkn
      have hbw := hb.size
      obtain ⟨c0, c1⟩ := held2_below hh2 hb hs1
      have hcf2 := hcf.below hb (Nat.le_refl _)
      have HCW := Lib.hid (hcf2.wide (Nat.lt_of_le_of_lt (l1_mem (List.mem_of_getElem? hp)) HL.out))
      have hlen := hcf2.2.len
      rw [hcf2.1] at c0
      have hmem := List.mem_of_getElem? hp
      have HV := Lib.hid (validE_iff.1 (HC.out.2 p hmem).2)
      have HZ := Lib.hid (HC.out.2 p hmem).1
      have HTE := Lib.hid hte
      have HP := Lib.hid hp
      have i0 : (0 : Int) ≤ (k : Int) := by omega
      have i1 : (k : Int) < (n : Int) := by omega
      have hq0 := Lib.hid (held4_below hh4 hb hs1)
      have HHT := Lib.hid HT
      have HCX := Lib.hid (show ∀ W : World, Below w.heap.size w W → ∀ j, j < 4 → W.cell? ⟨b, off + k * 6 + 2 + j, none⟩ = some (.int .i64 (ex p.2 j)) from fun W hbW j hj => by
        rw [← hte]
        have h9 := held4_below hh4 hbW hs1
        match j, hj with
        | 0, _ => exact h9.1
        | 1, _ => exact h9.2.1
        | 2, _ => exact h9.2.2.1
        | 3, _ => exact h9.2.2.2)
      have HNL := Lib.hid hlen
      have HNEG := Lib.hid hcf2.1
      clear HT hcf hh2 hte hlen hmem hp hh4
      have HNO := Lib.hid (show Calls Try.prog 44 #[.agg #[.bool (decide (p.1 < 0)), .slice t.A t.n t.c]] W0 (IntP B p.1 W0) by
        have h9 := inormal_any B (decide (p.1 < 0)) t.A t.n t.c _ W0 (Nat.le_trans hB hbw) hcf2.2 HCW.out.2
        rw [iv_digs] at h9
        exact h9)
      clear hcf2
      go_wp2_with fail
      refine HNO.out.mono ?_
      rintro e w1 ⟨A1, n1, ca, rfl, h1, hb1⟩
      have hn1 : n1 = t.n := by rw [← h1.len]; exact HNL.out
      subst hn1
      have hal : Below w1.heap.size w1 (w1.alloc (.cells #[.bool (decide (p.1 < 0)), .slice A1 t.n ca] 46)) := (Below.refl _ _).alloc (Nat.le_refl _) _
      have hb2 := hb1.trans (hal.mono hb1.size)
      have hI := IBox.new (z := p.1) h1
      obtain ⟨g, hg⟩ : ∃ g, g = w1.heap.size := ⟨_, rfl⟩
      obtain ⟨W2, hW2⟩ : ∃ W2, W2 = (w1.alloc (.cells #[.bool (decide (p.1 < 0)), .slice A1 t.n ca] 46)) := ⟨_, rfl⟩
      have q0 : W2.cell? ⟨g, 0, none⟩ = some (.bool (decide (p.1 < 0))) := by rw [hW2, hg, cell_of_row _ _ 0 _ _ _ (heap_alloc_new w1 _)]; rfl
      have q1 : W2.cell? ⟨g, 1, none⟩ = some (.slice A1 t.n ca) := by rw [hW2, hg, cell_of_row _ _ 1 _ _ _ (heap_alloc_new w1 _)]; rfl
      have hgl : g < W2.heap.size := by rw [hW2, hg]; simp
      have hdw := h1.below hal (Nat.le_refl _)
      rw [← hW2] at hb2 hdw
      have hbl : b < W0.heap.size := Nat.lt_of_lt_of_le hs1 hbw
      have hb3 := hb.trans (hb2.mono hbw)
      have c0' := (hb2.cell (p := ⟨b, off + k * 6, none⟩) hbl).trans c0
      have c1' := (hb2.cell (p := ⟨b, off + k * 6 + 1, none⟩) hbl).trans c1
      have hbl2 : b < W2.heap.size := Nat.lt_of_lt_of_le hbl hb2.size
      go_upto_region 5 with (fail)
      rw [← hg, ← hW2]
      clear hW2 hg hI hal hb1 h1 c0 c1
      have hS0 : HeldQ W2 g b (off + k * 6) (decide (p.1 < 0)) A1 t.n ca t.A t.n t.c := ⟨q0, q1, c0', c1'⟩
      have hS1 : HeldQ W2.drew g b (off + k * 6) (decide (p.1 < 0)) A1 t.n ca t.A t.n t.c := hS0
      have hdd := hdw.drew
      have hsg : (p.1.sign == 0) = false := by
        rw [beq_eq_false_iff_ne]; exact fun e => HZ.out (Int.sign_eq_zero_iff_zero.1 e)
      have HSG := Lib.hid (show (iv (decide (p.1 < 0)) (val (digs p.1.natAbs))).sign = p.1.sign by rw [iv_digs])
      have hnn : ((t.n : Int) != (t.n : Int)) = false := by simp
      have hbb : (decide (p.1 < 0) != decide (p.1 < 0)) = false := by simp
      clear q0 q1 c0' c1' hdw
      rcases Nat.eq_zero_or_pos k with hk0 | hk0
      · have hg0 : decide ((0 : Int) < (k : Int)) = false := by rw [decide_eq_false_iff_not]; omega
        have hg1 : decide (0 < k) = false := by rw [decide_eq_false_iff_not]; omega
        clear hk0
        refine wp_region_held_drew (S := fun w' => HeldQ w' g b (off + k * 6) (decide (p.1 < 0)) A1 t.n ca t.A t.n t.c) (by kernel_rfl) hS1 (fun hHeld => ?_)
        first | (refine wpAnyH_take (i := 0) (oi := ({ dst := some 18, op := Op.load 46 (Operand.tmp 4), type := 46, pos := "law.go:48", after := #[], guard := none } : Oper)) (v := ?v0) rfl (by kernel_rfl) (by kernel_rfl) (by kernel_rfl) (fun _ _ _ h => h) (Or.inl ⟨by rfl, ?hy0⟩) (by assumption) ?rest0; case hy0 => ((intro w' hSw); (try dsimp only at hSw); go_simp; (try with_reducible rfl))) | fail
        (try simp only [Act.put, List.setIfInBounds_toArray, List.set_cons_zero, List.set_cons_succ])
        refine wpAnyH_ready (rs := [1]) (by kernel_rfl) (by simp) ?_
        refine AllReadyH.cons (o := ({ dst := some 19, op := Op.call { callee := Callee.value (Operand.func 51), args := #[Operand.tmp 18], argTypes := #[46] }, type := 3, pos := "law.go:48", after := #[{ on := 0, ground := Ground.data }], guard := none } : Oper)) rfl (fun K hK => ?_) AllReadyH.nil
        go_simp
        refine (isign_any B _ _ _ _ _ _ hdd).mono ?_
        rw [HSG.out]
        rintro e w5 ⟨rfl, hb5⟩
        have hS5 := heldQ_below hS1 hb5 hgl hbl2
        go_wp2_with fail
        refine hK.out _ _ hS5 (fun hHeld2 => ?_)
        clear hK K hHeld
        (try simp only [Act.put, List.setIfInBounds_toArray, List.set_cons_zero, List.set_cons_succ])
        first | (refine wpAnyH_take (i := 2) (oi := ({ dst := some 20, op := Op.binOp BinOp.eql 3 (Operand.tmp 19) (Operand.const (Value.int IntKind.i64 0)) 3, type := 4, pos := "law.go:48", after := #[{ on := 1, ground := Ground.data }], guard := none } : Oper)) (v := ?v2) rfl (by kernel_rfl) (by kernel_rfl) (by kernel_rfl) (fun _ _ _ h => h) (Or.inl ⟨by rfl, ?hy2⟩) (by assumption) ?rest2; case hy2 => ((intro w' hSw); (try dsimp only at hSw); go_simp; (try with_reducible rfl))) | (refine wpAnyH_take (i := 2) (oi := ({ dst := some 20, op := Op.binOp BinOp.eql 3 (Operand.tmp 19) (Operand.const (Value.int IntKind.i64 0)) 3, type := 4, pos := "law.go:48", after := #[{ on := 1, ground := Ground.data }], guard := none } : Oper)) (v := undef) rfl (by kernel_rfl) (by kernel_rfl) (by kernel_rfl) (fun _ _ _ h => h) (Or.inr ⟨by rfl, rfl⟩) (by assumption) ?_)
        (try simp only [Act.put, List.setIfInBounds_toArray, List.set_cons_zero, List.set_cons_succ])
        first | (refine wpAnyH_take (i := 3) (oi := ({ dst := some 21, op := Op.move (Operand.tmp 20), type := 4, pos := "law.go:48", after := #[{ on := 2, ground := Ground.data }, { on := 1, ground := Ground.chain }], guard := none } : Oper)) (v := ?v3) rfl (by kernel_rfl) (by kernel_rfl) (by kernel_rfl) (fun _ _ _ h => h) (Or.inl ⟨by rfl, ?hy3⟩) (by assumption) ?rest3; case hy3 => ((intro w' hSw); (try dsimp only at hSw); go_simp; (try with_reducible rfl))) | (refine wpAnyH_take (i := 3) (oi := ({ dst := some 21, op := Op.move (Operand.tmp 20), type := 4, pos := "law.go:48", after := #[{ on := 2, ground := Ground.data }, { on := 1, ground := Ground.chain }], guard := none } : Oper)) (v := undef) rfl (by kernel_rfl) (by kernel_rfl) (by kernel_rfl) (fun _ _ _ h => h) (Or.inr ⟨by rfl, rfl⟩) (by assumption) ?_)
        (try simp only [Act.put, List.setIfInBounds_toArray, List.set_cons_zero, List.set_cons_succ])
        first | (refine wpAnyH_take (i := 4) (oi := ({ dst := some 22, op := Op.fieldAddr 46 (Operand.tmp 4) 0, type := 0, pos := "law.go:48", after := #[{ on := 3, ground := Ground.guard }], guard := some (3, false) } : Oper)) (v := ?v4) rfl (by kernel_rfl) (by kernel_rfl) (by kernel_rfl) (fun _ _ _ h => h) (Or.inl ⟨by rfl, ?hy4⟩) (by assumption) ?rest4; case hy4 => ((intro w' hSw); (try dsimp only at hSw); go_simp; (try with_reducible rfl))) | (refine wpAnyH_take (i := 4) (oi := ({ dst := some 22, op := Op.fieldAddr 46 (Operand.tmp 4) 0, type := 0, pos := "law.go:48", after := #[{ on := 3, ground := Ground.guard }], guard := some (3, false) } : Oper)) (v := undef) rfl (by kernel_rfl) (by kernel_rfl) (by kernel_rfl) (fun _ _ _ h => h) (Or.inr ⟨by rfl, rfl⟩) (by assumption) ?_)
        (try simp only [Act.put, List.setIfInBounds_toArray, List.set_cons_zero, List.set_cons_succ])
        first | (refine wpAnyH_take (i := 5) (oi := ({ dst := some 23, op := Op.load 4 (Operand.tmp 22), type := 4, pos := "law.go:48", after := #[{ on := 4, ground := Ground.data }, { on := 3, ground := Ground.guard }], guard := some (3, false) } : Oper)) (v := ?v5) rfl (by kernel_rfl) (by kernel_rfl) (by kernel_rfl) (fun _ _ _ h => h) (Or.inl ⟨by rfl, ?hy5⟩) (by assumption) ?rest5; case hy5 => ((intro w' hSw); (try dsimp only at hSw); go_simp; (try with_reducible rfl))) | (refine wpAnyH_take (i := 5) (oi := ({ dst := some 23, op := Op.load 4 (Operand.tmp 22), type := 4, pos := "law.go:48", after := #[{ on := 4, ground := Ground.data }, { on := 3, ground := Ground.guard }], guard := some (3, false) } : Oper)) (v := undef) rfl (by kernel_rfl) (by kernel_rfl) (by kernel_rfl) (fun _ _ _ h => h) (Or.inr ⟨by rfl, rfl⟩) (by assumption) ?_)
        (try simp only [Act.put, List.setIfInBounds_toArray, List.set_cons_zero, List.set_cons_succ])
        first | (refine wpAnyH_take (i := 6) (oi := ({ dst := some 24, op := Op.move (Operand.tmp 0), type := 26, pos := "law.go:48", after := #[{ on := 3, ground := Ground.guard }], guard := some (3, false) } : Oper)) (v := ?v6) rfl (by kernel_rfl) (by kernel_rfl) (by kernel_rfl) (fun _ _ _ h => h) (Or.inl ⟨by rfl, ?hy6⟩) (by assumption) ?rest6; case hy6 => ((intro w' hSw); (try dsimp only at hSw); go_simp; (try with_reducible rfl))) | (refine wpAnyH_take (i := 6) (oi := ({ dst := some 24, op := Op.move (Operand.tmp 0), type := 26, pos := "law.go:48", after := #[{ on := 3, ground := Ground.guard }], guard := some (3, false) } : Oper)) (v := undef) rfl (by kernel_rfl) (by kernel_rfl) (by kernel_rfl) (fun _ _ _ h => h) (Or.inr ⟨by rfl, rfl⟩) (by assumption) ?_)
        (try simp only [Act.put, List.setIfInBounds_toArray, List.set_cons_zero, List.set_cons_succ])
        first | (refine wpAnyH_take (i := 7) (oi := ({ dst := some 25, op := Op.move (Operand.tmp 3), type := 3, pos := "law.go:48", after := #[{ on := 3, ground := Ground.guard }], guard := some (3, false) } : Oper)) (v := ?v7) rfl (by kernel_rfl) (by kernel_rfl) (by kernel_rfl) (fun _ _ _ h => h) (Or.inl ⟨by rfl, ?hy7⟩) (by assumption) ?rest7; case hy7 => ((intro w' hSw); (try dsimp only at hSw); go_simp; (try with_reducible rfl))) | (refine wpAnyH_take (i := 7) (oi := ({ dst := some 25, op := Op.move (Operand.tmp 3), type := 3, pos := "law.go:48", after := #[{ on := 3, ground := Ground.guard }], guard := some (3, false) } : Oper)) (v := undef) rfl (by kernel_rfl) (by kernel_rfl) (by kernel_rfl) (fun _ _ _ h => h) (Or.inr ⟨by rfl, rfl⟩) (by assumption) ?_)
        (try simp only [Act.put, List.setIfInBounds_toArray, List.set_cons_zero, List.set_cons_succ])
        first | (refine wpAnyH_take (i := 8) (oi := ({ dst := some 26, op := Op.indexAddr 26 (Operand.tmp 24) (Operand.tmp 25), type := 0, pos := "law.go:48", after := #[{ on := 6, ground := Ground.data }, { on := 7, ground := Ground.data }, { on := 3, ground := Ground.guard }], guard := some (3, false) } : Oper)) (v := ?v8) rfl (by kernel_rfl) (by kernel_rfl) (by kernel_rfl) (fun _ _ _ h => h) (Or.inl ⟨by rfl, ?hy8⟩) (by assumption) ?rest8; case hy8 => ((intro w' hSw); (try dsimp only at hSw); go_simp; (try with_reducible rfl))) | (refine wpAnyH_take (i := 8) (oi := ({ dst := some 26, op := Op.indexAddr 26 (Operand.tmp 24) (Operand.tmp 25), type := 0, pos := "law.go:48", after := #[{ on := 6, ground := Ground.data }, { on := 7, ground := Ground.data }, { on := 3, ground := Ground.guard }], guard := some (3, false) } : Oper)) (v := undef) rfl (by kernel_rfl) (by kernel_rfl) (by kernel_rfl) (fun _ _ _ h => h) (Or.inr ⟨by rfl, rfl⟩) (by assumption) ?_)
        (try simp only [Act.put, List.setIfInBounds_toArray, List.set_cons_zero, List.set_cons_succ])
        first | (refine wpAnyH_take (i := 9) (oi := ({ dst := some 27, op := Op.fieldAddr 80 (Operand.tmp 26) 0, type := 0, pos := "law.go:48", after := #[{ on := 8, ground := Ground.data }, { on := 3, ground := Ground.guard }], guard := some (3, false) } : Oper)) (v := ?v9) rfl (by kernel_rfl) (by kernel_rfl) (by kernel_rfl) (fun _ _ _ h => h) (Or.inl ⟨by rfl, ?hy9⟩) (by assumption) ?rest9; case hy9 => ((intro w' hSw); (try dsimp only at hSw); go_simp; (try with_reducible rfl))) | (refine wpAnyH_take (i := 9) (oi := ({ dst := some 27, op := Op.fieldAddr 80 (Operand.tmp 26) 0, type := 0, pos := "law.go:48", after := #[{ on := 8, ground := Ground.data }, { on := 3, ground := Ground.guard }], guard := some (3, false) } : Oper)) (v := undef) rfl (by kernel_rfl) (by kernel_rfl) (by kernel_rfl) (fun _ _ _ h => h) (Or.inr ⟨by rfl, rfl⟩) (by assumption) ?_)
        (try simp only [Act.put, List.setIfInBounds_toArray, List.set_cons_zero, List.set_cons_succ])
        first | (refine wpAnyH_take (i := 10) (oi := ({ dst := some 28, op := Op.fieldAddr 46 (Operand.tmp 27) 0, type := 0, pos := "law.go:48", after := #[{ on := 9, ground := Ground.data }, { on := 3, ground := Ground.guard }], guard := some (3, false) } : Oper)) (v := ?v10) rfl (by kernel_rfl) (by kernel_rfl) (by kernel_rfl) (fun _ _ _ h => h) (Or.inl ⟨by rfl, ?hy10⟩) (by assumption) ?rest10; case hy10 => ((intro w' hSw); (try dsimp only at hSw); go_simp; (try with_reducible rfl))) | (refine wpAnyH_take (i := 10) (oi := ({ dst := some 28, op := Op.fieldAddr 46 (Operand.tmp 27) 0, type := 0, pos := "law.go:48", after := #[{ on := 9, ground := Ground.data }, { on := 3, ground := Ground.guard }], guard := some (3, false) } : Oper)) (v := undef) rfl (by kernel_rfl) (by kernel_rfl) (by kernel_rfl) (fun _ _ _ h => h) (Or.inr ⟨by rfl, rfl⟩) (by assumption) ?_)
        (try simp only [Act.put, List.setIfInBounds_toArray, List.set_cons_zero, List.set_cons_succ])
        first | (refine wpAnyH_take (i := 11) (oi := ({ dst := some 29, op := Op.load 4 (Operand.tmp 28), type := 4, pos := "law.go:48", after := #[{ on := 10, ground := Ground.data }, { on := 3, ground := Ground.guard }], guard := some (3, false) } : Oper)) (v := ?v11) rfl (by kernel_rfl) (by kernel_rfl) (by kernel_rfl) (fun _ _ _ h => h) (Or.inl ⟨by rfl, ?hy11⟩) (by assumption) ?rest11; case hy11 => ((intro w' hSw); (try dsimp only at hSw); go_simp; (try with_reducible rfl))) | (refine wpAnyH_take (i := 11) (oi := ({ dst := some 29, op := Op.load 4 (Operand.tmp 28), type := 4, pos := "law.go:48", after := #[{ on := 10, ground := Ground.data }, { on := 3, ground := Ground.guard }], guard := some (3, false) } : Oper)) (v := undef) rfl (by kernel_rfl) (by kernel_rfl) (by kernel_rfl) (fun _ _ _ h => h) (Or.inr ⟨by rfl, rfl⟩) (by assumption) ?_)
        (try simp only [Act.put, List.setIfInBounds_toArray, List.set_cons_zero, List.set_cons_succ])
        first | (refine wpAnyH_take (i := 12) (oi := ({ dst := some 30, op := Op.binOp BinOp.neq 4 (Operand.tmp 23) (Operand.tmp 29) 4, type := 4, pos := "law.go:48", after := #[{ on := 5, ground := Ground.data }, { on := 11, ground := Ground.data }, { on := 3, ground := Ground.guard }], guard := some (3, false) } : Oper)) (v := ?v12) rfl (by kernel_rfl) (by kernel_rfl) (by kernel_rfl) (fun _ _ _ h => h) (Or.inl ⟨by rfl, ?hy12⟩) (by assumption) ?rest12; case hy12 => ((intro w' hSw); (try dsimp only at hSw); go_simp; (try with_reducible rfl))) | (refine wpAnyH_take (i := 12) (oi := ({ dst := some 30, op := Op.binOp BinOp.neq 4 (Operand.tmp 23) (Operand.tmp 29) 4, type := 4, pos := "law.go:48", after := #[{ on := 5, ground := Ground.data }, { on := 11, ground := Ground.data }, { on := 3, ground := Ground.guard }], guard := some (3, false) } : Oper)) (v := undef) rfl (by kernel_rfl) (by kernel_rfl) (by kernel_rfl) (fun _ _ _ h => h) (Or.inr ⟨by rfl, rfl⟩) (by assumption) ?_)
        (try simp only [Act.put, List.setIfInBounds_toArray, List.set_cons_zero, List.set_cons_succ])
        first | (refine wpAnyH_take (i := 13) (oi := ({ dst := some 31, op := Op.pick (Operand.tmp 21) (Operand.const (Value.bool true)) (Operand.tmp 30), type := 4, pos := "law.go:48", after := #[{ on := 3, ground := Ground.data }, { on := 12, ground := Ground.data }], guard := none } : Oper)) (v := ?v13) rfl (by kernel_rfl) (by kernel_rfl) (by kernel_rfl) (fun _ _ _ h => h) (Or.inl ⟨by rfl, ?hy13⟩) (by assumption) ?rest13; case hy13 => ((intro w' hSw); (try dsimp only at hSw); go_simp; (try with_reducible rfl))) | (refine wpAnyH_take (i := 13) (oi := ({ dst := some 31, op := Op.pick (Operand.tmp 21) (Operand.const (Value.bool true)) (Operand.tmp 30), type := 4, pos := "law.go:48", after := #[{ on := 3, ground := Ground.data }, { on := 12, ground := Ground.data }], guard := none } : Oper)) (v := undef) rfl (by kernel_rfl) (by kernel_rfl) (by kernel_rfl) (fun _ _ _ h => h) (Or.inr ⟨by rfl, rfl⟩) (by assumption) ?_)
        (try simp only [Act.put, List.setIfInBounds_toArray, List.set_cons_zero, List.set_cons_succ])
        first | (refine wpAnyH_take (i := 14) (oi := ({ dst := some 32, op := Op.move (Operand.tmp 31), type := 4, pos := "law.go:48", after := #[{ on := 13, ground := Ground.data }, { on := 3, ground := Ground.chain }], guard := none } : Oper)) (v := ?v14) rfl (by kernel_rfl) (by kernel_rfl) (by kernel_rfl) (fun _ _ _ h => h) (Or.inl ⟨by rfl, ?hy14⟩) (by assumption) ?rest14; case hy14 => ((intro w' hSw); (try dsimp only at hSw); go_simp; (try with_reducible rfl))) | (refine wpAnyH_take (i := 14) (oi := ({ dst := some 32, op := Op.move (Operand.tmp 31), type := 4, pos := "law.go:48", after := #[{ on := 13, ground := Ground.data }, { on := 3, ground := Ground.chain }], guard := none } : Oper)) (v := undef) rfl (by kernel_rfl) (by kernel_rfl) (by kernel_rfl) (fun _ _ _ h => h) (Or.inr ⟨by rfl, rfl⟩) (by assumption) ?_)
        (try simp only [Act.put, List.setIfInBounds_toArray, List.set_cons_zero, List.set_cons_succ])
        first | (refine wpAnyH_take (i := 15) (oi := ({ dst := some 33, op := Op.fieldAddr 46 (Operand.tmp 4) 1, type := 0, pos := "law.go:48", after := #[{ on := 14, ground := Ground.guard }], guard := some (14, false) } : Oper)) (v := ?v15) rfl (by kernel_rfl) (by kernel_rfl) (by kernel_rfl) (fun _ _ _ h => h) (Or.inl ⟨by rfl, ?hy15⟩) (by assumption) ?rest15; case hy15 => ((intro w' hSw); (try dsimp only at hSw); go_simp; (try with_reducible rfl))) | (refine wpAnyH_take (i := 15) (oi := ({ dst := some 33, op := Op.fieldAddr 46 (Operand.tmp 4) 1, type := 0, pos := "law.go:48", after := #[{ on := 14, ground := Ground.guard }], guard := some (14, false) } : Oper)) (v := undef) rfl (by kernel_rfl) (by kernel_rfl) (by kernel_rfl) (fun _ _ _ h => h) (Or.inr ⟨by rfl, rfl⟩) (by assumption) ?_)
        (try simp only [Act.put, List.setIfInBounds_toArray, List.set_cons_zero, List.set_cons_succ])
        first | (refine wpAnyH_take (i := 16) (oi := ({ dst := some 34, op := Op.load 44 (Operand.tmp 33), type := 44, pos := "law.go:48", after := #[{ on := 15, ground := Ground.data }, { on := 14, ground := Ground.guard }], guard := some (14, false) } : Oper)) (v := ?v16) rfl (by kernel_rfl) (by kernel_rfl) (by kernel_rfl) (fun _ _ _ h => h) (Or.inl ⟨by rfl, ?hy16⟩) (by assumption) ?rest16; case hy16 => ((intro w' hSw); (try dsimp only at hSw); go_simp; (try with_reducible rfl))) | (refine wpAnyH_take (i := 16) (oi := ({ dst := some 34, op := Op.load 44 (Operand.tmp 33), type := 44, pos := "law.go:48", after := #[{ on := 15, ground := Ground.data }, { on := 14, ground := Ground.guard }], guard := some (14, false) } : Oper)) (v := undef) rfl (by kernel_rfl) (by kernel_rfl) (by kernel_rfl) (fun _ _ _ h => h) (Or.inr ⟨by rfl, rfl⟩) (by assumption) ?_)
        (try simp only [Act.put, List.setIfInBounds_toArray, List.set_cons_zero, List.set_cons_succ])
        first | (refine wpAnyH_take (i := 17) (oi := ({ dst := some 35, op := Op.call { callee := Callee.builtin Builtin.len, args := #[Operand.tmp 34], argTypes := #[44] }, type := 3, pos := "law.go:48", after := #[{ on := 16, ground := Ground.data }, { on := 14, ground := Ground.guard }], guard := some (14, false) } : Oper)) (v := ?v17) rfl (by kernel_rfl) (by kernel_rfl) (by kernel_rfl) (fun _ _ _ h => h) (Or.inl ⟨by rfl, ?hy17⟩) (by assumption) ?rest17; case hy17 => ((intro w' hSw); (try dsimp only at hSw); go_simp; (try with_reducible rfl))) | (refine wpAnyH_take (i := 17) (oi := ({ dst := some 35, op := Op.call { callee := Callee.builtin Builtin.len, args := #[Operand.tmp 34], argTypes := #[44] }, type := 3, pos := "law.go:48", after := #[{ on := 16, ground := Ground.data }, { on := 14, ground := Ground.guard }], guard := some (14, false) } : Oper)) (v := undef) rfl (by kernel_rfl) (by kernel_rfl) (by kernel_rfl) (fun _ _ _ h => h) (Or.inr ⟨by rfl, rfl⟩) (by assumption) ?_)
        (try simp only [Act.put, List.setIfInBounds_toArray, List.set_cons_zero, List.set_cons_succ])
        first | (refine wpAnyH_take (i := 18) (oi := ({ dst := some 36, op := Op.move (Operand.tmp 0), type := 26, pos := "law.go:48", after := #[{ on := 14, ground := Ground.guard }], guard := some (14, false) } : Oper)) (v := ?v18) rfl (by kernel_rfl) (by kernel_rfl) (by kernel_rfl) (fun _ _ _ h => h) (Or.inl ⟨by rfl, ?hy18⟩) (by assumption) ?rest18; case hy18 => ((intro w' hSw); (try dsimp only at hSw); go_simp; (try with_reducible rfl))) | (refine wpAnyH_take (i := 18) (oi := ({ dst := some 36, op := Op.move (Operand.tmp 0), type := 26, pos := "law.go:48", after := #[{ on := 14, ground := Ground.guard }], guard := some (14, false) } : Oper)) (v := undef) rfl (by kernel_rfl) (by kernel_rfl) (by kernel_rfl) (fun _ _ _ h => h) (Or.inr ⟨by rfl, rfl⟩) (by assumption) ?_)
        (try simp only [Act.put, List.setIfInBounds_toArray, List.set_cons_zero, List.set_cons_succ])
        first | (refine wpAnyH_take (i := 19) (oi := ({ dst := some 37, op := Op.move (Operand.tmp 3), type := 3, pos := "law.go:48", after := #[{ on := 14, ground := Ground.guard }], guard := some (14, false) } : Oper)) (v := ?v19) rfl (by kernel_rfl) (by kernel_rfl) (by kernel_rfl) (fun _ _ _ h => h) (Or.inl ⟨by rfl, ?hy19⟩) (by assumption) ?rest19; case hy19 => ((intro w' hSw); (try dsimp only at hSw); go_simp; (try with_reducible rfl))) | (refine wpAnyH_take (i := 19) (oi := ({ dst := some 37, op := Op.move (Operand.tmp 3), type := 3, pos := "law.go:48", after := #[{ on := 14, ground := Ground.guard }], guard := some (14, false) } : Oper)) (v := undef) rfl (by kernel_rfl) (by kernel_rfl) (by kernel_rfl) (fun _ _ _ h => h) (Or.inr ⟨by rfl, rfl⟩) (by assumption) ?_)
        (try simp only [Act.put, List.setIfInBounds_toArray, List.set_cons_zero, List.set_cons_succ])
        first | (refine wpAnyH_take (i := 20) (oi := ({ dst := some 38, op := Op.indexAddr 26 (Operand.tmp 36) (Operand.tmp 37), type := 0, pos := "law.go:48", after := #[{ on := 18, ground := Ground.data }, { on := 19, ground := Ground.data }, { on := 14, ground := Ground.guard }], guard := some (14, false) } : Oper)) (v := ?v20) rfl (by kernel_rfl) (by kernel_rfl) (by kernel_rfl) (fun _ _ _ h => h) (Or.inl ⟨by rfl, ?hy20⟩) (by assumption) ?rest20; case hy20 => ((intro w' hSw); (try dsimp only at hSw); go_simp; (try with_reducible rfl))) | (refine wpAnyH_take (i := 20) (oi := ({ dst := some 38, op := Op.indexAddr 26 (Operand.tmp 36) (Operand.tmp 37), type := 0, pos := "law.go:48", after := #[{ on := 18, ground := Ground.data }, { on := 19, ground := Ground.data }, { on := 14, ground := Ground.guard }], guard := some (14, false) } : Oper)) (v := undef) rfl (by kernel_rfl) (by kernel_rfl) (by kernel_rfl) (fun _ _ _ h => h) (Or.inr ⟨by rfl, rfl⟩) (by assumption) ?_)
        (try simp only [Act.put, List.setIfInBounds_toArray, List.set_cons_zero, List.set_cons_succ])
        first | (refine wpAnyH_take (i := 21) (oi := ({ dst := some 39, op := Op.fieldAddr 80 (Operand.tmp 38) 0, type := 0, pos := "law.go:48", after := #[{ on := 20, ground := Ground.data }, { on := 14, ground := Ground.guard }], guard := some (14, false) } : Oper)) (v := ?v21) rfl (by kernel_rfl) (by kernel_rfl) (by kernel_rfl) (fun _ _ _ h => h) (Or.inl ⟨by rfl, ?hy21⟩) (by assumption) ?rest21; case hy21 => ((intro w' hSw); (try dsimp only at hSw); go_simp; (try with_reducible rfl))) | (refine wpAnyH_take (i := 21) (oi := ({ dst := some 39, op := Op.fieldAddr 80 (Operand.tmp 38) 0, type := 0, pos := "law.go:48", after := #[{ on := 20, ground := Ground.data }, { on := 14, ground := Ground.guard }], guard := some (14, false) } : Oper)) (v := undef) rfl (by kernel_rfl) (by kernel_rfl) (by kernel_rfl) (fun _ _ _ h => h) (Or.inr ⟨by rfl, rfl⟩) (by assumption) ?_)
        (try simp only [Act.put, List.setIfInBounds_toArray, List.set_cons_zero, List.set_cons_succ])
        first | (refine wpAnyH_take (i := 22) (oi := ({ dst := some 40, op := Op.fieldAddr 46 (Operand.tmp 39) 1, type := 0, pos := "law.go:48", after := #[{ on := 21, ground := Ground.data }, { on := 14, ground := Ground.guard }], guard := some (14, false) } : Oper)) (v := ?v22) rfl (by kernel_rfl) (by kernel_rfl) (by kernel_rfl) (fun _ _ _ h => h) (Or.inl ⟨by rfl, ?hy22⟩) (by assumption) ?rest22; case hy22 => ((intro w' hSw); (try dsimp only at hSw); go_simp; (try with_reducible rfl))) | (refine wpAnyH_take (i := 22) (oi := ({ dst := some 40, op := Op.fieldAddr 46 (Operand.tmp 39) 1, type := 0, pos := "law.go:48", after := #[{ on := 21, ground := Ground.data }, { on := 14, ground := Ground.guard }], guard := some (14, false) } : Oper)) (v := undef) rfl (by kernel_rfl) (by kernel_rfl) (by kernel_rfl) (fun _ _ _ h => h) (Or.inr ⟨by rfl, rfl⟩) (by assumption) ?_)
        (try simp only [Act.put, List.setIfInBounds_toArray, List.set_cons_zero, List.set_cons_succ])
        first | (refine wpAnyH_take (i := 23) (oi := ({ dst := some 41, op := Op.load 44 (Operand.tmp 40), type := 44, pos := "law.go:48", after := #[{ on := 22, ground := Ground.data }, { on := 14, ground := Ground.guard }], guard := some (14, false) } : Oper)) (v := ?v23) rfl (by kernel_rfl) (by kernel_rfl) (by kernel_rfl) (fun _ _ _ h => h) (Or.inl ⟨by rfl, ?hy23⟩) (by assumption) ?rest23; case hy23 => ((intro w' hSw); (try dsimp only at hSw); go_simp; (try with_reducible rfl))) | (refine wpAnyH_take (i := 23) (oi := ({ dst := some 41, op := Op.load 44 (Operand.tmp 40), type := 44, pos := "law.go:48", after := #[{ on := 22, ground := Ground.data }, { on := 14, ground := Ground.guard }], guard := some (14, false) } : Oper)) (v := undef) rfl (by kernel_rfl) (by kernel_rfl) (by kernel_rfl) (fun _ _ _ h => h) (Or.inr ⟨by rfl, rfl⟩) (by assumption) ?_)
        (try simp only [Act.put, List.setIfInBounds_toArray, List.set_cons_zero, List.set_cons_succ])
        first | (refine wpAnyH_take (i := 24) (oi := ({ dst := some 42, op := Op.call { callee := Callee.builtin Builtin.len, args := #[Operand.tmp 41], argTypes := #[44] }, type := 3, pos := "law.go:48", after := #[{ on := 23, ground := Ground.data }, { on := 14, ground := Ground.guard }], guard := some (14, false) } : Oper)) (v := ?v24) rfl (by kernel_rfl) (by kernel_rfl) (by kernel_rfl) (fun _ _ _ h => h) (Or.inl ⟨by rfl, ?hy24⟩) (by assumption) ?rest24; case hy24 => ((intro w' hSw); (try dsimp only at hSw); go_simp; (try with_reducible rfl))) | (refine wpAnyH_take (i := 24) (oi := ({ dst := some 42, op := Op.call { callee := Callee.builtin Builtin.len, args := #[Operand.tmp 41], argTypes := #[44] }, type := 3, pos := "law.go:48", after := #[{ on := 23, ground := Ground.data }, { on := 14, ground := Ground.guard }], guard := some (14, false) } : Oper)) (v := undef) rfl (by kernel_rfl) (by kernel_rfl) (by kernel_rfl) (fun _ _ _ h => h) (Or.inr ⟨by rfl, rfl⟩) (by assumption) ?_)
        (try simp only [Act.put, List.setIfInBounds_toArray, List.set_cons_zero, List.set_cons_succ])
        first | (refine wpAnyH_take (i := 25) (oi := ({ dst := some 43, op := Op.binOp BinOp.neq 3 (Operand.tmp 35) (Operand.tmp 42) 3, type := 4, pos := "law.go:48", after := #[{ on := 17, ground := Ground.data }, { on := 24, ground := Ground.data }, { on := 14, ground := Ground.guard }], guard := some (14, false) } : Oper)) (v := ?v25) rfl (by kernel_rfl) (by kernel_rfl) (by kernel_rfl) (fun _ _ _ h => h) (Or.inl ⟨by rfl, ?hy25⟩) (by assumption) ?rest25; case hy25 => ((intro w' hSw); (try dsimp only at hSw); go_simp; (try with_reducible rfl))) | (refine wpAnyH_take (i := 25) (oi := ({ dst := some 43, op := Op.binOp BinOp.neq 3 (Operand.tmp 35) (Operand.tmp 42) 3, type := 4, pos := "law.go:48", after := #[{ on := 17, ground := Ground.data }, { on := 24, ground := Ground.data }, { on := 14, ground := Ground.guard }], guard := some (14, false) } : Oper)) (v := undef) rfl (by kernel_rfl) (by kernel_rfl) (by kernel_rfl) (fun _ _ _ h => h) (Or.inr ⟨by rfl, rfl⟩) (by assumption) ?_)
        (try simp only [Act.put, List.setIfInBounds_toArray, List.set_cons_zero, List.set_cons_succ])
        first | (refine wpAnyH_take (i := 26) (oi := ({ dst := some 44, op := Op.pick (Operand.tmp 32) (Operand.const (Value.bool true)) (Operand.tmp 43), type := 4, pos := "law.go:48", after := #[{ on := 14, ground := Ground.data }, { on := 25, ground := Ground.data }], guard := none } : Oper)) (v := ?v26) rfl (by kernel_rfl) (by kernel_rfl) (by kernel_rfl) (fun _ _ _ h => h) (Or.inl ⟨by rfl, ?hy26⟩) (by assumption) ?rest26; case hy26 => ((intro w' hSw); (try dsimp only at hSw); go_simp; (try with_reducible rfl))) | (refine wpAnyH_take (i := 26) (oi := ({ dst := some 44, op := Op.pick (Operand.tmp 32) (Operand.const (Value.bool true)) (Operand.tmp 43), type := 4, pos := "law.go:48", after := #[{ on := 14, ground := Ground.data }, { on := 25, ground := Ground.data }], guard := none } : Oper)) (v := undef) rfl (by kernel_rfl) (by kernel_rfl) (by kernel_rfl) (fun _ _ _ h => h) (Or.inr ⟨by rfl, rfl⟩) (by assumption) ?_)
        (try simp only [Act.put, List.setIfInBounds_toArray, List.set_cons_zero, List.set_cons_succ])
        first | (refine wpAnyH_take (i := 27) (oi := ({ dst := some 45, op := Op.move (Operand.tmp 44), type := 4, pos := "law.go:48", after := #[{ on := 26, ground := Ground.data }, { on := 14, ground := Ground.chain }], guard := none } : Oper)) (v := ?v27) rfl (by kernel_rfl) (by kernel_rfl) (by kernel_rfl) (fun _ _ _ h => h) (Or.inl ⟨by rfl, ?hy27⟩) (by assumption) ?rest27; case hy27 => ((intro w' hSw); (try dsimp only at hSw); go_simp; (try with_reducible rfl))) | (refine wpAnyH_take (i := 27) (oi := ({ dst := some 45, op := Op.move (Operand.tmp 44), type := 4, pos := "law.go:48", after := #[{ on := 26, ground := Ground.data }, { on := 14, ground := Ground.chain }], guard := none } : Oper)) (v := undef) rfl (by kernel_rfl) (by kernel_rfl) (by kernel_rfl) (fun _ _ _ h => h) (Or.inr ⟨by rfl, rfl⟩) (by assumption) ?_)
        (try simp only [Act.put, List.setIfInBounds_toArray, List.set_cons_zero, List.set_cons_succ])
        first | (refine wpAnyH_take (i := 28) (oi := ({ dst := some 46, op := Op.move (Operand.tmp 3), type := 3, pos := "law.go:48", after := #[{ on := 27, ground := Ground.guard }], guard := some (27, false) } : Oper)) (v := ?v28) rfl (by kernel_rfl) (by kernel_rfl) (by kernel_rfl) (fun _ _ _ h => h) (Or.inl ⟨by rfl, ?hy28⟩) (by assumption) ?rest28; case hy28 => ((intro w' hSw); (try dsimp only at hSw); go_simp; (try with_reducible rfl))) | (refine wpAnyH_take (i := 28) (oi := ({ dst := some 46, op := Op.move (Operand.tmp 3), type := 3, pos := "law.go:48", after := #[{ on := 27, ground := Ground.guard }], guard := some (27, false) } : Oper)) (v := undef) rfl (by kernel_rfl) (by kernel_rfl) (by kernel_rfl) (fun _ _ _ h => h) (Or.inr ⟨by rfl, rfl⟩) (by assumption) ?_)
        (try simp only [Act.put, List.setIfInBounds_toArray, List.set_cons_zero, List.set_cons_succ])
        first | (refine wpAnyH_take (i := 29) (oi := ({ dst := some 47, op := Op.binOp BinOp.gtr 3 (Operand.tmp 46) (Operand.const (Value.int IntKind.i64 0)) 3, type := 4, pos := "law.go:48", after := #[{ on := 28, ground := Ground.data }, { on := 27, ground := Ground.guard }], guard := some (27, false) } : Oper)) (v := ?v29) rfl (by kernel_rfl) (by kernel_rfl) (by kernel_rfl) (fun _ _ _ h => h) (Or.inl ⟨by rfl, ?hy29⟩) (by assumption) ?rest29; case hy29 => ((intro w' hSw); (try dsimp only at hSw); go_simp; (try with_reducible rfl))) | (refine wpAnyH_take (i := 29) (oi := ({ dst := some 47, op := Op.binOp BinOp.gtr 3 (Operand.tmp 46) (Operand.const (Value.int IntKind.i64 0)) 3, type := 4, pos := "law.go:48", after := #[{ on := 28, ground := Ground.data }, { on := 27, ground := Ground.guard }], guard := some (27, false) } : Oper)) (v := undef) rfl (by kernel_rfl) (by kernel_rfl) (by kernel_rfl) (fun _ _ _ h => h) (Or.inr ⟨by rfl, rfl⟩) (by assumption) ?_)
        (try simp only [Act.put, List.setIfInBounds_toArray, List.set_cons_zero, List.set_cons_succ])
        first | (refine wpAnyH_take (i := 30) (oi := ({ dst := some 48, op := Op.move (Operand.tmp 47), type := 4, pos := "law.go:48", after := #[{ on := 29, ground := Ground.data }, { on := 27, ground := Ground.chain }, { on := 27, ground := Ground.guard }], guard := some (27, false) } : Oper)) (v := ?v30) rfl (by kernel_rfl) (by kernel_rfl) (by kernel_rfl) (fun _ _ _ h => h) (Or.inl ⟨by rfl, ?hy30⟩) (by assumption) ?rest30; case hy30 => ((intro w' hSw); (try dsimp only at hSw); go_simp; (try with_reducible rfl))) | (refine wpAnyH_take (i := 30) (oi := ({ dst := some 48, op := Op.move (Operand.tmp 47), type := 4, pos := "law.go:48", after := #[{ on := 29, ground := Ground.data }, { on := 27, ground := Ground.chain }, { on := 27, ground := Ground.guard }], guard := some (27, false) } : Oper)) (v := undef) rfl (by kernel_rfl) (by kernel_rfl) (by kernel_rfl) (fun _ _ _ h => h) (Or.inr ⟨by rfl, rfl⟩) (by assumption) ?_)
        (try simp only [Act.put, List.setIfInBounds_toArray, List.set_cons_zero, List.set_cons_succ])
        first | (refine wpAnyH_take (i := 31) (oi := ({ dst := some 49, op := Op.move (Operand.tmp 0), type := 26, pos := "law.go:48", after := #[{ on := 30, ground := Ground.guard }], guard := some (30, true) } : Oper)) (v := undef) rfl (by kernel_rfl) (by kernel_rfl) (by kernel_rfl) (fun _ _ _ h => h) (Or.inr ⟨by rfl, rfl⟩) (by assumption) ?_) | (refine wpAnyH_take (i := 31) (oi := ({ dst := some 49, op := Op.move (Operand.tmp 0), type := 26, pos := "law.go:48", after := #[{ on := 30, ground := Ground.guard }], guard := some (30, true) } : Oper)) (v := ?v31) rfl (by kernel_rfl) (by kernel_rfl) (by kernel_rfl) (fun _ _ _ h => h) (Or.inl ⟨by rfl, ?hy31⟩) (by assumption) ?rest31; case hy31 => ((intro w' hSw); (try dsimp only at hSw); go_simp; (try with_reducible rfl)))
        (try simp only [Act.put, List.setIfInBounds_toArray, List.set_cons_zero, List.set_cons_succ])
        first | (refine wpAnyH_take (i := 32) (oi := ({ dst := some 50, op := Op.move (Operand.tmp 3), type := 3, pos := "law.go:48", after := #[{ on := 30, ground := Ground.guard }], guard := some (30, true) } : Oper)) (v := undef) rfl (by kernel_rfl) (by kernel_rfl) (by kernel_rfl) (fun _ _ _ h => h) (Or.inr ⟨by rfl, rfl⟩) (by assumption) ?_) | (refine wpAnyH_take (i := 32) (oi := ({ dst := some 50, op := Op.move (Operand.tmp 3), type := 3, pos := "law.go:48", after := #[{ on := 30, ground := Ground.guard }], guard := some (30, true) } : Oper)) (v := ?v32) rfl (by kernel_rfl) (by kernel_rfl) (by kernel_rfl) (fun _ _ _ h => h) (Or.inl ⟨by rfl, ?hy32⟩) (by assumption) ?rest32; case hy32 => ((intro w' hSw); (try dsimp only at hSw); go_simp; (try with_reducible rfl)))
        (try simp only [Act.put, List.setIfInBounds_toArray, List.set_cons_zero, List.set_cons_succ])
        first | (refine wpAnyH_take (i := 33) (oi := ({ dst := some 51, op := Op.binOp BinOp.sub 3 (Operand.tmp 50) (Operand.const (Value.int IntKind.i64 1)) 3, type := 3, pos := "law.go:48", after := #[{ on := 32, ground := Ground.data }, { on := 30, ground := Ground.guard }], guard := some (30, true) } : Oper)) (v := undef) rfl (by kernel_rfl) (by kernel_rfl) (by kernel_rfl) (fun _ _ _ h => h) (Or.inr ⟨by rfl, rfl⟩) (by assumption) ?_) | (refine wpAnyH_take (i := 33) (oi := ({ dst := some 51, op := Op.binOp BinOp.sub 3 (Operand.tmp 50) (Operand.const (Value.int IntKind.i64 1)) 3, type := 3, pos := "law.go:48", after := #[{ on := 32, ground := Ground.data }, { on := 30, ground := Ground.guard }], guard := some (30, true) } : Oper)) (v := ?v33) rfl (by kernel_rfl) (by kernel_rfl) (by kernel_rfl) (fun _ _ _ h => h) (Or.inl ⟨by rfl, ?hy33⟩) (by assumption) ?rest33; case hy33 => ((intro w' hSw); (try dsimp only at hSw); go_simp; (try with_reducible rfl)))
        (try simp only [Act.put, List.setIfInBounds_toArray, List.set_cons_zero, List.set_cons_succ])
        first | (refine wpAnyH_take (i := 34) (oi := ({ dst := some 52, op := Op.indexAddr 26 (Operand.tmp 49) (Operand.tmp 51), type := 0, pos := "law.go:48", after := #[{ on := 31, ground := Ground.data }, { on := 33, ground := Ground.data }, { on := 30, ground := Ground.guard }], guard := some (30, true) } : Oper)) (v := undef) rfl (by kernel_rfl) (by kernel_rfl) (by kernel_rfl) (fun _ _ _ h => h) (Or.inr ⟨by rfl, rfl⟩) (by assumption) ?_) | (refine wpAnyH_take (i := 34) (oi := ({ dst := some 52, op := Op.indexAddr 26 (Operand.tmp 49) (Operand.tmp 51), type := 0, pos := "law.go:48", after := #[{ on := 31, ground := Ground.data }, { on := 33, ground := Ground.data }, { on := 30, ground := Ground.guard }], guard := some (30, true) } : Oper)) (v := ?v34) rfl (by kernel_rfl) (by kernel_rfl) (by kernel_rfl) (fun _ _ _ h => h) (Or.inl ⟨by rfl, ?hy34⟩) (by assumption) ?rest34; case hy34 => ((intro w' hSw); (try dsimp only at hSw); go_simp; (try with_reducible rfl)))
        (try simp only [Act.put, List.setIfInBounds_toArray, List.set_cons_zero, List.set_cons_succ])
        first | (refine wpAnyH_take (i := 35) (oi := ({ dst := some 53, op := Op.fieldAddr 80 (Operand.tmp 52) 1, type := 0, pos := "law.go:48", after := #[{ on := 34, ground := Ground.data }, { on := 30, ground := Ground.guard }], guard := some (30, true) } : Oper)) (v := undef) rfl (by kernel_rfl) (by kernel_rfl) (by kernel_rfl) (fun _ _ _ h => h) (Or.inr ⟨by rfl, rfl⟩) (by assumption) ?_) | (refine wpAnyH_take (i := 35) (oi := ({ dst := some 53, op := Op.fieldAddr 80 (Operand.tmp 52) 1, type := 0, pos := "law.go:48", after := #[{ on := 34, ground := Ground.data }, { on := 30, ground := Ground.guard }], guard := some (30, true) } : Oper)) (v := ?v35) rfl (by kernel_rfl) (by kernel_rfl) (by kernel_rfl) (fun _ _ _ h => h) (Or.inl ⟨by rfl, ?hy35⟩) (by assumption) ?rest35; case hy35 => ((intro w' hSw); (try dsimp only at hSw); go_simp; (try with_reducible rfl)))
        (try simp only [Act.put, List.setIfInBounds_toArray, List.set_cons_zero, List.set_cons_succ])
        first | (refine wpAnyH_take (i := 36) (oi := ({ dst := some 54, op := Op.load 34 (Operand.tmp 53), type := 34, pos := "law.go:48", after := #[{ on := 35, ground := Ground.data }, { on := 30, ground := Ground.guard }], guard := some (30, true) } : Oper)) (v := undef) rfl (by kernel_rfl) (by kernel_rfl) (by kernel_rfl) (fun _ _ _ h => h) (Or.inr ⟨by rfl, rfl⟩) (by assumption) ?_) | (refine wpAnyH_take (i := 36) (oi := ({ dst := some 54, op := Op.load 34 (Operand.tmp 53), type := 34, pos := "law.go:48", after := #[{ on := 35, ground := Ground.data }, { on := 30, ground := Ground.guard }], guard := some (30, true) } : Oper)) (v := ?v36) rfl (by kernel_rfl) (by kernel_rfl) (by kernel_rfl) (fun _ _ _ h => h) (Or.inl ⟨by rfl, ?hy36⟩) (by assumption) ?rest36; case hy36 => ((intro w' hSw); (try dsimp only at hSw); go_simp; (try with_reducible rfl)))
        (try simp only [Act.put, List.setIfInBounds_toArray, List.set_cons_zero, List.set_cons_succ])
        first | (refine wpAnyH_take (i := 37) (oi := ({ dst := some 55, op := Op.move (Operand.tmp 0), type := 26, pos := "law.go:48", after := #[{ on := 30, ground := Ground.guard }], guard := some (30, true) } : Oper)) (v := undef) rfl (by kernel_rfl) (by kernel_rfl) (by kernel_rfl) (fun _ _ _ h => h) (Or.inr ⟨by rfl, rfl⟩) (by assumption) ?_) | (refine wpAnyH_take (i := 37) (oi := ({ dst := some 55, op := Op.move (Operand.tmp 0), type := 26, pos := "law.go:48", after := #[{ on := 30, ground := Ground.guard }], guard := some (30, true) } : Oper)) (v := ?v37) rfl (by kernel_rfl) (by kernel_rfl) (by kernel_rfl) (fun _ _ _ h => h) (Or.inl ⟨by rfl, ?hy37⟩) (by assumption) ?rest37; case hy37 => ((intro w' hSw); (try dsimp only at hSw); go_simp; (try with_reducible rfl)))
        (try simp only [Act.put, List.setIfInBounds_toArray, List.set_cons_zero, List.set_cons_succ])
        first | (refine wpAnyH_take (i := 38) (oi := ({ dst := some 56, op := Op.move (Operand.tmp 3), type := 3, pos := "law.go:48", after := #[{ on := 30, ground := Ground.guard }], guard := some (30, true) } : Oper)) (v := undef) rfl (by kernel_rfl) (by kernel_rfl) (by kernel_rfl) (fun _ _ _ h => h) (Or.inr ⟨by rfl, rfl⟩) (by assumption) ?_) | (refine wpAnyH_take (i := 38) (oi := ({ dst := some 56, op := Op.move (Operand.tmp 3), type := 3, pos := "law.go:48", after := #[{ on := 30, ground := Ground.guard }], guard := some (30, true) } : Oper)) (v := ?v38) rfl (by kernel_rfl) (by kernel_rfl) (by kernel_rfl) (fun _ _ _ h => h) (Or.inl ⟨by rfl, ?hy38⟩) (by assumption) ?rest38; case hy38 => ((intro w' hSw); (try dsimp only at hSw); go_simp; (try with_reducible rfl)))
        (try simp only [Act.put, List.setIfInBounds_toArray, List.set_cons_zero, List.set_cons_succ])
        first | (refine wpAnyH_take (i := 39) (oi := ({ dst := some 57, op := Op.indexAddr 26 (Operand.tmp 55) (Operand.tmp 56), type := 0, pos := "law.go:48", after := #[{ on := 37, ground := Ground.data }, { on := 38, ground := Ground.data }, { on := 30, ground := Ground.guard }], guard := some (30, true) } : Oper)) (v := undef) rfl (by kernel_rfl) (by kernel_rfl) (by kernel_rfl) (fun _ _ _ h => h) (Or.inr ⟨by rfl, rfl⟩) (by assumption) ?_) | (refine wpAnyH_take (i := 39) (oi := ({ dst := some 57, op := Op.indexAddr 26 (Operand.tmp 55) (Operand.tmp 56), type := 0, pos := "law.go:48", after := #[{ on := 37, ground := Ground.data }, { on := 38, ground := Ground.data }, { on := 30, ground := Ground.guard }], guard := some (30, true) } : Oper)) (v := ?v39) rfl (by kernel_rfl) (by kernel_rfl) (by kernel_rfl) (fun _ _ _ h => h) (Or.inl ⟨by rfl, ?hy39⟩) (by assumption) ?rest39; case hy39 => ((intro w' hSw); (try dsimp only at hSw); go_simp; (try with_reducible rfl)))
        (try simp only [Act.put, List.setIfInBounds_toArray, List.set_cons_zero, List.set_cons_succ])
        first | (refine wpAnyH_take (i := 40) (oi := ({ dst := some 58, op := Op.fieldAddr 80 (Operand.tmp 57) 1, type := 0, pos := "law.go:48", after := #[{ on := 39, ground := Ground.data }, { on := 30, ground := Ground.guard }], guard := some (30, true) } : Oper)) (v := undef) rfl (by kernel_rfl) (by kernel_rfl) (by kernel_rfl) (fun _ _ _ h => h) (Or.inr ⟨by rfl, rfl⟩) (by assumption) ?_) | (refine wpAnyH_take (i := 40) (oi := ({ dst := some 58, op := Op.fieldAddr 80 (Operand.tmp 57) 1, type := 0, pos := "law.go:48", after := #[{ on := 39, ground := Ground.data }, { on := 30, ground := Ground.guard }], guard := some (30, true) } : Oper)) (v := ?v40) rfl (by kernel_rfl) (by kernel_rfl) (by kernel_rfl) (fun _ _ _ h => h) (Or.inl ⟨by rfl, ?hy40⟩) (by assumption) ?rest40; case hy40 => ((intro w' hSw); (try dsimp only at hSw); go_simp; (try with_reducible rfl)))
        (try simp only [Act.put, List.setIfInBounds_toArray, List.set_cons_zero, List.set_cons_succ])
        first | (refine wpAnyH_take (i := 41) (oi := ({ dst := some 59, op := Op.load 34 (Operand.tmp 58), type := 34, pos := "law.go:48", after := #[{ on := 40, ground := Ground.data }, { on := 30, ground := Ground.guard }], guard := some (30, true) } : Oper)) (v := undef) rfl (by kernel_rfl) (by kernel_rfl) (by kernel_rfl) (fun _ _ _ h => h) (Or.inr ⟨by rfl, rfl⟩) (by assumption) ?_) | (refine wpAnyH_take (i := 41) (oi := ({ dst := some 59, op := Op.load 34 (Operand.tmp 58), type := 34, pos := "law.go:48", after := #[{ on := 40, ground := Ground.data }, { on := 30, ground := Ground.guard }], guard := some (30, true) } : Oper)) (v := ?v41) rfl (by kernel_rfl) (by kernel_rfl) (by kernel_rfl) (fun _ _ _ h => h) (Or.inl ⟨by rfl, ?hy41⟩) (by assumption) ?rest41; case hy41 => ((intro w' hSw); (try dsimp only at hSw); go_simp; (try with_reducible rfl)))
        (try simp only [Act.put, List.setIfInBounds_toArray, List.set_cons_zero, List.set_cons_succ])
        first | (refine wpAnyH_take (i := 42) (oi := ({ dst := some 60, op := Op.call { callee := Callee.value (Operand.func 53), args := #[Operand.tmp 54, Operand.tmp 59], argTypes := #[34, 34] }, type := 4, pos := "law.go:48", after := #[{ on := 36, ground := Ground.data }, { on := 41, ground := Ground.data }, { on := 30, ground := Ground.chain }, { on := 30, ground := Ground.guard }], guard := some (30, true) } : Oper)) (v := undef) rfl (by kernel_rfl) (by kernel_rfl) (by kernel_rfl) (fun _ _ _ h => h) (Or.inr ⟨by rfl, rfl⟩) (by assumption) ?_) | (refine wpAnyH_take (i := 42) (oi := ({ dst := some 60, op := Op.call { callee := Callee.value (Operand.func 53), args := #[Operand.tmp 54, Operand.tmp 59], argTypes := #[34, 34] }, type := 4, pos := "law.go:48", after := #[{ on := 36, ground := Ground.data }, { on := 41, ground := Ground.data }, { on := 30, ground := Ground.chain }, { on := 30, ground := Ground.guard }], guard := some (30, true) } : Oper)) (v := ?v42) rfl (by kernel_rfl) (by kernel_rfl) (by kernel_rfl) (fun _ _ _ h => h) (Or.inl ⟨by rfl, ?hy42⟩) (by assumption) ?rest42; case hy42 => ((intro w' hSw); (try dsimp only at hSw); go_simp; (try with_reducible rfl)))
        (try simp only [Act.put, List.setIfInBounds_toArray, List.set_cons_zero, List.set_cons_succ])
        first | (refine wpAnyH_take (i := 43) (oi := ({ dst := some 61, op := Op.unOp UnOp.not 4 (Operand.tmp 60), type := 4, pos := "law.go:48", after := #[{ on := 42, ground := Ground.data }, { on := 30, ground := Ground.guard }], guard := some (30, true) } : Oper)) (v := undef) rfl (by kernel_rfl) (by kernel_rfl) (by kernel_rfl) (fun _ _ _ h => h) (Or.inr ⟨by rfl, rfl⟩) (by assumption) ?_) | (refine wpAnyH_take (i := 43) (oi := ({ dst := some 61, op := Op.unOp UnOp.not 4 (Operand.tmp 60), type := 4, pos := "law.go:48", after := #[{ on := 42, ground := Ground.data }, { on := 30, ground := Ground.guard }], guard := some (30, true) } : Oper)) (v := ?v43) rfl (by kernel_rfl) (by kernel_rfl) (by kernel_rfl) (fun _ _ _ h => h) (Or.inl ⟨by rfl, ?hy43⟩) (by assumption) ?rest43; case hy43 => ((intro w' hSw); (try dsimp only at hSw); go_simp; (try with_reducible rfl)))
        (try simp only [Act.put, List.setIfInBounds_toArray, List.set_cons_zero, List.set_cons_succ])
        first | (refine wpAnyH_take (i := 44) (oi := ({ dst := some 62, op := Op.pick (Operand.tmp 48) (Operand.tmp 61) (Operand.const (Value.bool false)), type := 4, pos := "law.go:48", after := #[{ on := 30, ground := Ground.data }, { on := 43, ground := Ground.data }, { on := 27, ground := Ground.guard }], guard := some (27, false) } : Oper)) (v := ?v44) rfl (by kernel_rfl) (by kernel_rfl) (by kernel_rfl) (fun _ _ _ h => h) (Or.inl ⟨by rfl, ?hy44⟩) (by assumption) ?rest44; case hy44 => ((intro w' hSw); (try dsimp only at hSw); go_simp; (try with_reducible rfl))) | (refine wpAnyH_take (i := 44) (oi := ({ dst := some 62, op := Op.pick (Operand.tmp 48) (Operand.tmp 61) (Operand.const (Value.bool false)), type := 4, pos := "law.go:48", after := #[{ on := 30, ground := Ground.data }, { on := 43, ground := Ground.data }, { on := 27, ground := Ground.guard }], guard := some (27, false) } : Oper)) (v := undef) rfl (by kernel_rfl) (by kernel_rfl) (by kernel_rfl) (fun _ _ _ h => h) (Or.inr ⟨by rfl, rfl⟩) (by assumption) ?_)
        (try simp only [Act.put, List.setIfInBounds_toArray, List.set_cons_zero, List.set_cons_succ])
        first | (refine wpAnyH_take (i := 45) (oi := ({ dst := some 63, op := Op.pick (Operand.tmp 45) (Operand.const (Value.bool true)) (Operand.tmp 62), type := 4, pos := "law.go:48", after := #[{ on := 27, ground := Ground.data }, { on := 44, ground := Ground.data }], guard := none } : Oper)) (v := ?v45) rfl (by kernel_rfl) (by kernel_rfl) (by kernel_rfl) (fun _ _ _ h => h) (Or.inl ⟨by rfl, ?hy45⟩) (by assumption) ?rest45; case hy45 => ((intro w' hSw); (try dsimp only at hSw); go_simp; (try with_reducible rfl))) | (refine wpAnyH_take (i := 45) (oi := ({ dst := some 63, op := Op.pick (Operand.tmp 45) (Operand.const (Value.bool true)) (Operand.tmp 62), type := 4, pos := "law.go:48", after := #[{ on := 27, ground := Ground.data }, { on := 44, ground := Ground.data }], guard := none } : Oper)) (v := undef) rfl (by kernel_rfl) (by kernel_rfl) (by kernel_rfl) (fun _ _ _ h => h) (Or.inr ⟨by rfl, rfl⟩) (by assumption) ?_)
        (try simp only [Act.put, List.setIfInBounds_toArray, List.set_cons_zero, List.set_cons_succ])
        refine wpAnyH_done (by kernel_rfl) ?_ _
        have hbz := hb3.trans (((Below.refl W2.heap.size W2).drew.trans hb5).mono hb3.size)
        obtain ⟨Wz, hWz⟩ : ∃ y, y = w5 := ⟨_, rfl⟩
        rw [← hWz] at hbz ⊢
        clear hWz hHeld2 hS5 hb5 hS0 hS1 hdd hsg HSG hnn hbb hg0 hg1 hb3 hb2
        go_wp2_with fail
        go_loop [5] (fun i => ∃ j : Nat, j ≤ 4 ∧ i = .int .i64 j) (fun i => 4 - (intOf i).toNat)
        case atStart => exact ⟨0, by omega, rfl⟩
        case round =>
          obtain ⟨j, hj, rfl⟩ := hrel
          by_cases hj4 : j < 4
          · have j0 : (0 : Int) ≤ (j : Int) := by omega
            have j1 : (j : Int) < 4 := by omega
            have hx := HCX.out Wz hbz j hj4
            have hx0 : 0 ≤ ex p.2 j := HV.out j hj4
            generalize ex p.2 j = x at hx hx0
            go_wp2
            go_round
            case rel => exact ⟨j + 1, by omega, by go_num⟩
            case measure => simp [intOf]; omega
          · obtain rfl : j = 4 := by omega
            go_wp2
            go_roundw
            case rel => exact ⟨k + 1, by omega, by go_num, hbz⟩
            case measure => simp [intOf]; omega
      · obtain ⟨q, hq⟩ : ∃ q, q + 1 = k := ⟨k - 1, by omega⟩
        obtain ⟨t', p', hp', hte', _, _, hh4'⟩ := HHT.out q (by omega)
        have hr4 := held4_below (held4_below hh4' hb hs1) hb2 hbl
        have hr4' := held4_below hq0.out hb2 hbl
        have e1 : (k : Int) - 1 = (q : Int) := by omega
        have e2 : IntKind.i64.wrap (q : Int) = (q : Int) := IntWalk.i64_in _ (by omega)
        have e3 : (0 : Int) ≤ (q : Int) := by omega
        have e4 : (q : Int) < (n : Int) := by omega
        have hg0 : decide ((0 : Int) < (k : Int)) = true := by rw [decide_eq_true_eq]; omega
        have hg1 : decide (0 < k) = true := by rw [decide_eq_true_eq]; omega
        have HGR := Lib.hid (show decide (0 < cmpE t'.e t.e) = true by
          rw [decide_eq_true_eq, hte', HTE.out]
          exact sorted_at HC.out.1 hp' HP.out (by omega))
        have hSS : HeldQ W2.drew g b (off + k * 6) (decide (p.1 < 0)) A1 t.n ca t.A t.n t.c ∧ (Held4 W2.drew b (off + q * 6) t'.e ∧ Held4 W2.drew b (off + k * 6) t.e) := ⟨hS1, hr4, hr4'⟩
        clear hq hp' hte' hh4' hr4 hr4' hS0
        go_region_held3 (fun w' => HeldQ w' g b (off + k * 6) (decide (p.1 < 0)) A1 t.n ca t.A t.n t.c ∧ (Held4 w' b (off + q * 6) t'.e ∧ Held4 w' b (off + k * 6) t.e)) (first | exact hSS | exact hS5 | exact hS6 | go_keep)
          (first
            | (go_at_call 51; ((with_reducible refine (isign_any B _ _ _ _ _ _ hdd).mono ?_); rw [HSG.out]; rintro e w5 ⟨rfl, hb5⟩; have hS5 := And.intro (heldQ_below hSS.1 hb5 hgl hbl2) (And.intro (held4_below (w := W2.drew) hSS.2.1 hb5 hbl2) (held4_below (w := W2.drew) hSS.2.2 hb5 hbl2)); have hgl5 : g < w5.heap.size := Nat.lt_of_lt_of_le hgl hb5.size; have hbl5 : b < w5.heap.size := Nat.lt_of_lt_of_le hbl2 hb5.size))
            | (go_at_call 53; ((with_reducible refine (greater_any t'.e t.e _).mono ?_); rw [HGR.out]; rintro e w6 ⟨rfl, hb6⟩; have hS6 := And.intro (heldQ_below hS5.1 hb6 hgl5 hbl5) (And.intro (held4_below hS5.2.1 hb6 hbl5) (held4_below hS5.2.2 hb6 hbl5)))))
        replace hb5 := hb5.trans (hb6.mono hb5.size)
        have hbz := hb3.trans (((Below.refl W2.heap.size W2).drew.trans hb5).mono hb3.size)
        obtain ⟨Wz, hWz⟩ : ∃ y, y = w6 := ⟨_, rfl⟩
        rw [← hWz] at hbz ⊢
        clear hWz hb5 hb6 hSS hS5 hS6 hS1 hdd hsg HSG hnn hbb hg0 hg1 hb3 hb2 e1 e2 HHT
        go_wp2_with fail
        go_loop [5] (fun i => ∃ j : Nat, j ≤ 4 ∧ i = .int .i64 j) (fun i => 4 - (intOf i).toNat)
        case atStart => exact ⟨0, by omega, rfl⟩
        case round =>
          obtain ⟨j, hj, rfl⟩ := hrel
          by_cases hj4 : j < 4
          · have j0 : (0 : Int) ≤ (j : Int) := by omega
            have j1 : (j : Int) < 4 := by omega
            have hx := HCX.out Wz hbz j hj4
            have hx0 : 0 ≤ ex p.2 j := HV.out j hj4
            generalize ex p.2 j = x at hx hx0
            go_wp2
            go_round
            case rel => exact ⟨j + 1, by omega, by go_num⟩
            case measure => simp [intOf]; omega
          · obtain rfl : j = 4 := by omega
            go_wp2
            go_roundw
            case rel => exact ⟨k + 1, by omega, by go_num, hbz⟩
            case measure => simp [intOf]; omega
    · obtain rfl : k = n := by omega
      go_wp2
      go_ret
      exact ⟨rfl, hb⟩
end Go.Proofs.Ytnknidfpkmnncaa
