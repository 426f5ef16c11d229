import Derived.Test.YtoifinmcoldidaaC2
import Derived.Test.YtoifinmcoldidaaMems
import Derived.DeepKeys4
import Derived.KernelRfl
set_option maxRecDepth 100000
set_option linter.unusedVariables false
set_option linter.unusedSimpArgs false
namespace Go.Proofs.Ytoifinmcoldidaa
open Go.RowKit Go.Mm Sb

/-! ### the map of effects -/
theorem laidOut : laidOutB Try.prog = true := by kernel_rfl
theorem row144 : (85 : TypeId) < Try.prog.types.size := of_decide_eq_true (by kernel_rfl)
theorem wide144 : (match Try.prog.underlying 85 with | some (.array _ _) | some (.struct _) => true | _ => false) = true := by kernel_rfl
theorem law144 : WideMaps.KeyLaw Try.prog 85 := deep_law_laid laidOut (m := 2) (by omega) row144 (by kernel_rfl) wide144
def encP (p : SLoc) : Value := .agg #[.int .i64 p.1, .int .i64 p.2]
def encS (s : Sec) : Value := .agg (secCells s).toArray
def litP (p : SLoc) : Lit := .string (keyBytes [.int .i64 p.1, .int .i64 p.2])
theorem wf64 {x : Int} (h : In64 x) : (Lit.int .i64 x).wf = true := by
  have e1 : IntKind.min .i64 = -9223372036854775808 := by decide
  have e2 : IntKind.max .i64 = 9223372036854775807 := by decide
  unfold In64 at h
  simp only [Lit.wf, e1, e2, Bool.and_eq_true, decide_eq_true_eq]
  exact h
theorem keyOf144 (p : SLoc) (h1 : In64 p.1) (h2 : In64 p.2) : keyOf Try.prog 85 (encP p) = some (litP p) := by
  have hk : Try.prog.keyType 85 = true := by kernel_rfl
  obtain ⟨m, hs⟩ : ∃ m, Try.prog.types.size + 1 = m + 2 := by
    have : 0 < Try.prog.types.size := of_decide_eq_true (by kernel_rfl)
    exact ⟨Try.prog.types.size - 1, by omega⟩
  have hc : Try.prog.cellsOf 85 = 2 := by kernel_rfl
  have hc3 : Try.prog.cellsOf 3 = 1 := by kernel_rfl
  have w1 := wf64 h1
  have w2 := wf64 h2
  unfold keyOf encP litP
  rw [hs]
  simp only [Try.underlying85, hk, Value.formed, hc, Bool.true_and]
  have e : Try.prog.keyLits (m + 2) 85 (Value.agg #[.int .i64 p.1, .int .i64 p.2]).cells.toList = some [.int .i64 p.1, .int .i64 p.2] := by
    simp [Program.keyLits, Try.underlying85, Try.underlying3, hc, hc3, w1, w2, Value.cells]
  rw [e]
  rfl
noncomputable def kPl : KeyKit Try.prog 85 SLoc where
  enc := encP
  dom p := In64 p.1 ∧ In64 p.2
  lit := litP
  law := Maps.Keyed.of_law law144
  key p h := keyOf144 p h.1 h.2
  inj p q h := by
    obtain ⟨a, b⟩ := p; obtain ⟨c, d⟩ := q
    unfold encP at h
    simp at h
    exact Prod.ext h.1 h.2
end Go.Proofs.Ytoifinmcoldidaa
