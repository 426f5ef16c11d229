/-
standby/standbylaw22.CoalesceSelects returns true for every input, never panics, and the arguments read as before. No condition.
-/
import Derived.Test.YtoifinmcoldidaaD8
import Derived.Test.YtoifinmcoldidaaW1
import Derived.Test.YtoifinmcoldidaaW5
import Derived.Test.YtoifinmcoldidaaF8
set_option linter.unusedVariables false
namespace Go.Proofs.Ytoifinmcoldidaa
open Go.ChangeShapes Go.WideShapes Go.ChangeAt Go.RowKit Go.Mm Sb

theorem ownL : ownKnob Try.prog.godebug = none := by kernel_rfl
set_option maxRecDepth 100000 in
theorem coalesceSelects_lifted (os : Os) (started : os.Started) (H : Type) (enc : TypeId × Value → H) :
    ReturnsInHanded {} Try.checked os 9 .any (Rows.coalesceSelectsSpec.pre6 enc Try.prog Try.f9 Rows.coalesceSelectsRow.domain false) (Rows.coalesceSelectsSpec.post enc Try.prog Try.f9 false true false false) := by
  refine returnsInHanded_of_change (C := Try.checked) ownL started (by kernel_rfl) Try.func9
    (ChangeSpec.witness6 (enc := enc) (C := Try.checked) false ⟨#[], #[.slice none 0 0, .agg #[.int .i64 0, .int .i64 0, .slice none 0 0]], []⟩ 8 (by kernel_rfl) (by kernel_rfl) (by kernel_rfl) (by kernel_rfl)) ?_
  intro W base args ds gs before hval0 hW hcnd _
  have hval : ∀ (j : Nat) t v, Try.f9.params[j]? = some t → args[j]? = some v → Value.okWide Try.prog W .any base t v := hval0
  have hW' := hW
  obtain ⟨p, q, hA0, hV, rfl, hfz, hnd⟩ := hW
  have hA : DataW.TrodAll enc Try.prog W 0 (fun _ => true) true Try.f9.params.toList args.toList ds p := hA0
  rw [Try.params9] at hA hval
  obtain ⟨v0, v1, d0, d1, p0, p1, rfl, rfl, rfl, h0, h1⟩ := trodAll_two hA
  obtain ⟨rfl, rfl⟩ := trodVars_none hV
  obtain ⟨a0, len0, cap0, rfl⟩ := okWide_slice Try.underlying22 (hval 0 22 v0 rfl rfl)
  obtain ⟨c1, rfl, z1⟩ := okWide_struct Try.underlying50 (hval 1 50 v1 rfl rfl)
  have lt0 : ∀ x ∈ p0, x.block < W.heap.size := by obtain ⟨m, hm⟩ := h0; exact DataW.trod_lt m _ _ _ hm
  have lt1 : ∀ x ∈ p1, x.block < W.heap.size := by obtain ⟨m, hm⟩ := h1; exact DataW.trod_lt m _ _ _ hm
  obtain ⟨l0, r0⟩ := read_wrs h0 rfl
  obtain ⟨pv1, ps1, pk1, l1, rfl, iv1, is1, r1⟩ := read_part h1 z1
  clear hA0 hval0
  refine (selects_any _ _ l0 pv1 ps1 l1 W r0 r1 iv1 is1).mono fun e W' ⟨he, bel⟩ => ?_
  subst he
  exact ⟨_, rfl, _, _, _, [], _, [], hW', trodAll_mk1 (shut_bool Try.underlying4 _), (trodAll_mk2 (Below.trod laidOut (by kernel_rfl) (of_decide_eq_true (by kernel_rfl)) h0 bel lt0) (Below.trod laidOut (by kernel_rfl) (of_decide_eq_true (by kernel_rfl)) h1 bel lt1)), rfl, bel.frame _, fun h => by cases h⟩

/-- The statement. -/
theorem coalesceSelects_said : Rows.CoalesceSelectsSaid :=
  OpenClaim.holds_of_wide 9 Try.f9 rfl rfl rfl rfl rfl rfl rfl ⟨rfl, rfl, rfl, rfl, rfl⟩ rfl rfl rfl rfl rfl coalesceSelects_named Try.func9 coalesceSelects_closed
    (of_decide_eq_true (by kernel_rfl)) (by unfold Func.isWrapper; rw [if_neg (of_decide_eq_false (by kernel_rfl))]; exact ⟨rfl, rfl⟩)
    (fun os started H enc _ => coalesceSelects_lifted os started H enc)
end Go.Proofs.Ytoifinmcoldidaa
