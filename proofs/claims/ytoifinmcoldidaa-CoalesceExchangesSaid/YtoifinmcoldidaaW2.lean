import Derived.Test.YtoifinmcoldidaaW1
set_option linter.unusedVariables false
namespace Go.Mm
open Go.RowKit Go.WideShapes

theorem okByte {P : Program} {w : World} {base : Nat} {t : TypeId} {v : Value} (ht : P.underlying t = some (.int .u8)) (h : Value.okWide P w .any base t v) : ∃ n, v = .int .u8 n ∧ 0 ≤ n ∧ n < 256 := by
  obtain ⟨n, rfl⟩ := okWide_int ht h
  refine ⟨n, rfl, ?_⟩
  simp only [Value.okWide, ht, Cell.okWide, Cell.ok, IntKind.has] at h
  obtain ⟨_, h1, h2⟩ := h
  have e1 : IntKind.u8.min = 0 := by decide
  have e2 : IntKind.u8.max = 255 := by decide
  rw [e1] at h1
  rw [e2] at h2
  omega
end Go.Mm
