import Derived.Test.YtccbbecfmfldbaaQ8
import Derived.Laws.StructEq
import Derived.ChangeKeysEq
set_option maxRecDepth 100000
set_option linter.unusedVariables false
set_option linter.unusedSimpArgs false
set_option maxHeartbeats 1000000
namespace Go.Proofs.Ytccbbecfmfldbaa
open Go.RowKit Go.Mm Sb

/-! ### '==' on structs and arrays -/
theorem guardP : Try.prog.eqGuardType Try.prog.depth 170 = false := by kernel_rfl
theorem eqInP (a b c d : Int) (w : World) : (Op.equalIn 10000 170 (.agg #[.int .i64 a, .int .i64 b]) (.agg #[.int .i64 c, .int .i64 d])).run Try.prog w = .ok (a == c && b == d) w := by
  have u3 := Try.underlying3
  have a3 := Try.isAgg3
  have z3 := Try.sizeOf3
  have hS : Try.prog.underlying 170 = some (.struct (Try.prog.fieldsOf 170)) := by kernel_rfl
  have hp : Try.prog.stoodInHeld 170 = false := by kernel_rfl
  rw [show (10000 : Nat) = 9999 + 1 from rfl, run_equalIn_agg w 9999 170 _ _ hS hp]
  simp only [Program.fieldsOf, Try.underlying170]
  go_simp
  (repeat' split) <;> simp [*]
theorem neqP (a b c d : Int) (w : World) : (binOp .neq 170 (.agg #[.int .i64 a, .int .i64 b]) (.agg #[.int .i64 c, .int .i64 d])).run Try.prog w = .ok (.bool (!(a == c && b == d))) w := by
  rw [run_neq_struct, eqInP]; rfl
theorem guardS : Try.prog.eqGuardType Try.prog.depth 99 = false := by kernel_rfl
theorem infoE0 : (Try.prog.info? 5).isSome = true := by kernel_rfl
theorem infoE : ∃ i, Try.prog.info? 5 = some i := by
  have h := infoE0
  cases h' : Try.prog.info? 5 with
  | none => rw [h'] at h; cases h
  | some i => exact ⟨i, rfl⟩
theorem eqInS (x y : Sec) (w : World) : (Op.equalIn 10000 99 (encS x) (encS y)).run Try.prog w = .ok (decide (x = y)) w := by
  have u5 := Try.underlying5
  have a5 := Try.isAgg5
  have z5 := Try.sizeOf5
  obtain ⟨i, hi⟩ := infoE
  have hc : Try.prog.cellsOf 5 = 1 := by kernel_rfl
  have hr : List.range 8 = [0, 1, 2, 3, 4, 5, 6, 7] := by decide
  obtain ⟨a0, a1, a2, a3, a4, b5, a6, a7⟩ := x
  obtain ⟨c0, c1, c2, c3, c4, c5, c6, c7⟩ := y
  rw [show (10000 : Nat) = 9999 + 1 from rfl]
  unfold encS secCells
  rw [run_equalIn_array w 9999 _ _ Try.underlying99 hi, hc, hr]
  simp only [Op.eqItems]
  go_simp
  (repeat' split) <;> simp [*]
theorem neqS (x y : Sec) (w : World) : (binOp .neq 99 (encS x) (encS y)).run Try.prog w = .ok (.bool (!decide (x = y))) w := by
  unfold encS
  rw [run_neq_struct]
  have := eqInS x y w
  unfold encS at this
  rw [this]; rfl
theorem eqlS (x y : Sec) (w : World) : (binOp .eql 99 (encS x) (encS y)).run Try.prog w = .ok (.bool (decide (x = y))) w := by
  unfold encS
  rw [run_eql_struct]
  have := eqInS x y w
  unfold encS at this
  rw [this]; rfl
end Go.Proofs.Ytccbbecfmfldbaa
