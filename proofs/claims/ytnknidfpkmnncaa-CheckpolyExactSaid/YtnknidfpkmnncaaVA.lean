/- CheckpolyExact returns true for both lists of terms and every number, and the lists read behind the call as they read before. No condition. -/
import Derived.Test.YtnknidfpkmnncaaM6
import Derived.Test.YtnknidfpkmnncaaRows
import Derived.WalkKit
import Derived.ProofKit
import Derived.ShutString
import Derived.ChangeOld
import Derived.Below
namespace Go.Proofs.Ytnknidfpkmnncaa.checkpolyExact
open Go.ChangeShapes Go.WideShapes Go.ChangeAt Go.RowKit Go.Deep
set_option linter.unusedVariables false

theorem own : ownKnob Try.prog.godebug = none := by kernel_rfl
theorem laidOut : laidOutB Try.prog = true := by kernel_rfl

set_option maxRecDepth 100000 in
theorem lifted (os : Os) (started : os.Started) (H : Type) (enc : TypeId × Value → H) :
    ReturnsInHanded {} Try.checked os 7 .any (Rows.checkpolyExactSpec.pre6 enc Try.prog Try.f7 Rows.checkpolyExactRow.domain false) (Rows.checkpolyExactSpec.post enc Try.prog Try.f7 false true false false) := by
  refine returnsInHanded_of_change (C := Try.checked) own started (by kernel_rfl) Try.func7
    (ChangeSpec.witness6 (enc := enc) (C := Try.checked) false ⟨#[], #[.slice none 0 0, .slice none 0 0, .int .u8 0], []⟩ 8 (by kernel_rfl) (by kernel_rfl) (by kernel_rfl) (by kernel_rfl)) ?_
  intro W base args ds gs before hval0 hW hcnd _
  have hval : ∀ (j : Nat) t v, Try.f7.params[j]? = some t → args[j]? = some v → Value.okWide Try.prog W .any base t v := hval0
  have hW' := hW
  obtain ⟨p, q, hA0, hV, rfl, hfz, hnd⟩ := hW
  have hA : DataW.TrodAll enc Try.prog W 0 (fun _ => true) true Try.f7.params.toList args.toList ds p := hA0
  rw [Try.params7] at hA hval
  obtain ⟨v0, vs0, d0, ds0, p0, q0, hargs, rfl, rfl, h0, r0⟩ := trodAll_cons hA
  obtain ⟨v1, vs1, d1, ds1, p1, q1, rfl, rfl, rfl, h1, r1⟩ := trodAll_cons r0
  obtain ⟨v2, vs2, d2, ds2, p2, q2, rfl, rfl, rfl, h2, r2⟩ := trodAll_cons r1
  obtain ⟨rfl, rfl, rfl⟩ := trodAll_nil r2
  obtain rfl : args = #[v0, v1, v2] := by cases args; simp_all
  obtain ⟨rfl, rfl⟩ := trodVars_none hV
  have k0 := h0
  have k1 := h1
  have k2 := h2
  have lt0 : ∀ x ∈ p0, x.block < W.heap.size := by obtain ⟨m, hm⟩ := k0; exact DataW.trod_lt m _ _ _ hm
  have lt1 : ∀ x ∈ p1, x.block < W.heap.size := by obtain ⟨m, hm⟩ := k1; exact DataW.trod_lt m _ _ _ hm
  have lt2 : ∀ x ∈ p2, x.block < W.heap.size := by obtain ⟨m, hm⟩ := k2; exact DataW.trod_lt m _ _ _ hm
  obtain ⟨a0, len0, cap0, rfl⟩ := okWide_slice Try.underlying22 (hval 0 22 v0 rfl rfl)
  obtain ⟨L0, m0⟩ : ∃ L, MonoR W.heap.size W a0 len0 cap0 L := by
    obtain ⟨fuel, hf⟩ := h0
    obtain ⟨A, n, c, L, hv, hm⟩ := open_monos hf
    injection hv with e1 e2 e3
    subst e1 e2 e3
    exact ⟨L, hm⟩
  obtain ⟨a1, len1, cap1, rfl⟩ := okWide_slice Try.underlying22 (hval 1 22 v1 rfl rfl)
  obtain ⟨L1, m1⟩ : ∃ L, MonoR W.heap.size W a1 len1 cap1 L := by
    obtain ⟨fuel, hf⟩ := h1
    obtain ⟨A, n, c, L, hv, hm⟩ := open_monos hf
    injection hv with e1 e2 e3
    subst e1 e2 e3
    exact ⟨L, hm⟩
  obtain ⟨x2, rfl⟩ := okWide_int Try.underlying5 (hval 2 5 v2 rfl rfl)
  obtain ⟨ax2, bx2⟩ : 0 ≤ x2 ∧ x2 ≤ 255 := by
    obtain ⟨fuel, hf⟩ := h2
    obtain ⟨z, hz, _, hzw⟩ := DataW.trod_int Try.underlying5 hf
    simp [Value.cells] at hz
    subst hz
    simp [Lit.wf, IntKind.wrap, IntKind.bits, IntKind.signed] at hzw
    have q1 : IntKind.i8.min = -128 := rfl
    have q2 : IntKind.i8.max = 127 := rfl
    have q3 : IntKind.u8.min = 0 := rfl
    have q4 : IntKind.u8.max = 255 := rfl
    omega
  clear hA0 hval0
  refine (exactLaw_any W.heap.size a0 a1 len0 cap0 len1 cap1 L0 L1 x2 W (Nat.le_refl _) m0 m1 (Nat.le_trans m0.row.cap m0.row.bd) (Nat.le_trans m1.row.cap m1.row.bd) ax2 bx2).mono fun e W' ⟨he, bel⟩ => ?_
  subst he
  exact ⟨_, rfl, _, _, _, [], _, [], hW', trodAll_mk1 (shut_bool Try.underlying4 _), (trodAll_cons_mk (Below.trod laidOut (by kernel_rfl) (of_decide_eq_true (by kernel_rfl)) k0 bel lt0) (trodAll_cons_mk (Below.trod laidOut (by kernel_rfl) (of_decide_eq_true (by kernel_rfl)) k1 bel lt1) (trodAll_cons_mk (Below.trod laidOut (by kernel_rfl) (of_decide_eq_true (by kernel_rfl)) k2 bel lt2) trodAll_mk0))), rfl, bel.frame _, fun h => by cases h⟩

theorem over : Rows.checkpolyExactRow.holds Try.pinned (OpenSpec.ofChange Rows.checkpolyExactSpec) :=
  OpenClaim.holds_of_wide 7 Try.f7 rfl rfl rfl rfl rfl rfl rfl ⟨rfl, rfl, rfl, rfl, rfl⟩ rfl rfl rfl rfl rfl (by kernel_rfl) Try.func7 (by kernel_rfl)
    (of_decide_eq_true (by kernel_rfl)) (by unfold Func.isWrapper; first | (rw [if_pos (by decide +kernel)]; kernel_rfl) | (rw [if_neg (by decide +kernel)]; exact ⟨rfl, rfl⟩))
    (fun os started H enc _ => lifted os started H enc)

theorem proved : Rows.CheckpolyExactSaid := over
end Go.Proofs.Ytnknidfpkmnncaa.checkpolyExact
