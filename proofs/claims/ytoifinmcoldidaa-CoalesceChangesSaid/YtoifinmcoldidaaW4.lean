import Derived.Test.YtoifinmcoldidaaW3
import Derived.Test.YtoifinmcoldidaaI2
set_option maxRecDepth 100000
set_option linter.unusedVariables false
set_option linter.unusedSimpArgs false
namespace Go.Proofs.Ytoifinmcoldidaa
open Go.ChangeShapes Go.WideShapes Go.ChangeAt Go.RowKit Go.Mm Sb Go.Deep

/-! ### what came in, read: an image -/
section
variable {H : Type} {enc : TypeId × Value → H} {w : World} {spare : Nat → Bool} {held : Bool}
theorem read_vol {n : Nat} {cs : List Value} {x : DataW H × List MemPlace} (hl : cs.length = 1) (h : DataW.trod enc Try.prog w 0 spare held n 33 cs = some x) : ∃ y, RVol w Any cs y := by
  obtain ⟨v, xs, e, hx⟩ := read_sl (P := Try.prog) (k := 8) (by omega) (R := RSec) Try.underlying33 (by kernel_rfl) (fun n cs x => read_sec) h
  exact ⟨xs, v, e, hx⟩
theorem read_img {v : Value} {d : DataW H} {p : List MemPlace} (h : DataW.Trod enc Try.prog w 0 spare held 60 v d p) (hc : v.cells.toList = [v]) : ∃ l, RImg w Any v l := by
  obtain ⟨fuel, hf⟩ := h
  rw [hc] at hf
  obtain ⟨v', l, e, hl⟩ := read_sl (P := Try.prog) (k := 1) (by omega) (R := RVol) Try.underlying60 (by kernel_rfl) (fun n cs x => read_vol) hf
  injection e with e
  subst e
  exact ⟨l, hl⟩
end
end Go.Proofs.Ytoifinmcoldidaa
