/-
standby/standbylaw36.SnapshotChecks returns true for every input, never panics, and the arguments read as before. No condition.
-/
import Derived.Test.YtccbbecfmfldbaaQ30
import Derived.Test.YtccbbecfmfldbaaQ31
import Derived.Test.YtccbbecfmfldbaaQ33
set_option linter.unusedVariables false
namespace Go.Proofs.Ytccbbecfmfldbaa
open Go.ChangeShapes Go.WideShapes Go.ChangeAt Go.RowKit Go.Mm Sb

theorem ownL : ownKnob Try.prog.godebug = none := by kernel_rfl
set_option maxRecDepth 100000 in
theorem snapshotChecks_lifted (os : Os) (started : os.Started) (H : Type) (enc : TypeId × Value → H) :
    ReturnsInHanded {} Try.checked os 3 .any (Rows.snapshotChecksSpec.pre6 enc Try.prog Try.f3 Rows.snapshotChecksRow.domain false) (Rows.snapshotChecksSpec.post enc Try.prog Try.f3 false true false false) := by
  refine returnsInHanded_of_change (C := Try.checked) ownL started (by kernel_rfl) Try.func3
    (ChangeSpec.witness6 (enc := enc) (C := Try.checked) false ⟨#[], #[.agg #[.slice none 0 0, .slice none 0 0]], []⟩ 8 (by kernel_rfl) (by kernel_rfl) (by kernel_rfl) (by kernel_rfl)) ?_
  intro W base args ds gs before hval0 hW hcnd _
  have hval : ∀ (j : Nat) t v, Try.f3.params[j]? = some t → args[j]? = some v → Value.okWide Try.prog W .any base t v := hval0
  have hW' := hW
  obtain ⟨p, q, hA0, hV, rfl, hfz, hnd⟩ := hW
  have hA : DataW.TrodAll enc Try.prog W 0 (fun _ => true) true Try.f3.params.toList args.toList ds p := hA0
  rw [Try.params3] at hA hval
  obtain ⟨v0, d0, rfl, rfl, h0⟩ := trodAll_one hA
  obtain ⟨rfl, rfl⟩ := trodVars_none hV
  obtain ⟨c0, rfl, z0⟩ := okWide_struct Try.underlying26 (hval 0 26 v0 rfl rfl)
  have lt0 : ∀ x ∈ p, x.block < W.heap.size := by obtain ⟨m, hm⟩ := h0; exact DataW.trod_lt m _ _ _ hm
  obtain ⟨vc0, vi0, l0, rfl, r0, ri0⟩ := read_snaps h0 z0
  clear hA0 hval0
  refine (snChecks_any _ _ l0 W r0 ri0).mono fun e W' ⟨he, bel⟩ => ?_
  subst he
  exact ⟨_, rfl, _, _, _, [], _, [], hW', trodAll_mk1 (shut_bool Try.underlying4 _), (trodAll_mk1 (Below.trod laidOut (by kernel_rfl) (of_decide_eq_true (by kernel_rfl)) h0 bel lt0)), rfl, bel.frame _, fun h => by cases h⟩

/-- The statement. -/
theorem snapshotChecks_said : Rows.SnapshotChecksSaid :=
  OpenClaim.holds_of_wide 3 Try.f3 rfl rfl rfl rfl rfl rfl rfl ⟨rfl, rfl, rfl, rfl, rfl⟩ rfl rfl rfl rfl rfl snapshotChecks_named Try.func3 snapshotChecks_closed
    (of_decide_eq_true (by kernel_rfl)) (by unfold Func.isWrapper; rw [if_neg (of_decide_eq_false (by kernel_rfl))]; exact ⟨rfl, rfl⟩)
    (fun os started H enc _ => snapshotChecks_lifted os started H enc)
end Go.Proofs.Ytccbbecfmfldbaa
