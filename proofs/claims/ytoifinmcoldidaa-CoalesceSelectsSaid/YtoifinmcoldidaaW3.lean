import Derived.Test.YtoifinmcoldidaaW1
set_option maxRecDepth 100000
set_option linter.unusedVariables false
set_option linter.unusedSimpArgs false
namespace Go.Proofs.Ytoifinmcoldidaa
open Go.ChangeShapes Go.WideShapes Go.ChangeAt Go.RowKit Go.Mm Sb Go.Deep

/-! ### what came in, read: numbers, extents -/
section
variable {H : Type} {enc : TypeId × Value → H} {w : World} {spare : Nat → Bool} {held : Bool}
theorem read_int {n : Nat} {cs : List Value} {x : DataW H × List MemPlace} (hl : cs.length = 1) (h : DataW.trod enc Try.prog w 0 spare held n 3 cs = some x) : ∃ y, RInt w Any cs y := by
  obtain ⟨c, rfl⟩ : ∃ c, cs = [c] := List.length_eq_one_iff.1 hl
  obtain ⟨a, ha, _, wa⟩ := DataW.trod_int Try.underlying3 h
  exact ⟨a, wf_in64 wa, ha⟩
theorem read_ints {v : Value} {d : DataW H} {p : List MemPlace} (h : DataW.Trod enc Try.prog w 0 spare held 38 v d p) (hc : v.cells.toList = [v]) : ∃ l, RInts w Any v l := by
  obtain ⟨fuel, hf⟩ := h
  rw [hc] at hf
  obtain ⟨v', l, e, hl⟩ := read_sl (P := Try.prog) (k := 1) (by omega) (R := RInt) Try.underlying38 (by kernel_rfl) (fun n cs x => read_int) hf
  injection e with e
  subst e
  exact ⟨l, hl⟩
theorem read_ext {n : Nat} {cs : List Value} {x : DataW H × List MemPlace} (hl : cs.length = 2) (h : DataW.trod enc Try.prog w 0 spare held n 68 cs = some x) : ∃ y, RExt w Any cs y := by
  obtain ⟨xs, m, _, _, _, hlx, hf⟩ := DataW.trod_struct Try.underlying68 h
  have hc : Try.prog.cellsOf 3 = 1 := by kernel_rfl
  have h0 : DataW.trod enc Try.prog w 0 spare held m 3 ((cs.drop 0).take (Try.prog.cellsOf 3)) = xs[0]? := hf 0 _ rfl
  have h1 : DataW.trod enc Try.prog w 0 spare held m 3 ((cs.drop 1).take (Try.prog.cellsOf 3)) = xs[1]? := hf 1 _ rfl
  rw [hc] at h0 h1
  have hlx3 : xs.length = 2 := hlx
  rw [take1 (by omega), List.getElem?_eq_getElem (by omega)] at h0 h1
  obtain ⟨a, ha, _, wa⟩ := DataW.trod_int Try.underlying3 h0
  obtain ⟨b, hb, _, wb⟩ := DataW.trod_int Try.underlying3 h1
  obtain ⟨c0, c1, rfl⟩ : ∃ c0 c1, cs = [c0, c1] := by
    match cs, hl with
    | [c0, c1], _ => exact ⟨_, _, rfl⟩
  simp at ha hb
  subst ha hb
  exact ⟨⟨a, b⟩, wf_in64 wa, wf_in64 wb, rfl⟩
theorem read_exts {v : Value} {d : DataW H} {p : List MemPlace} (h : DataW.Trod enc Try.prog w 0 spare held 42 v d p) (hc : v.cells.toList = [v]) : ∃ l, RExts w Any v l := by
  obtain ⟨fuel, hf⟩ := h
  rw [hc] at hf
  obtain ⟨v', l, e, hl⟩ := read_sl (P := Try.prog) (k := 2) (by omega) (R := RExt) Try.underlying42 (by kernel_rfl) (fun n cs x => read_ext) hf
  injection e with e
  subst e
  exact ⟨l, hl⟩
end
end Go.Proofs.Ytoifinmcoldidaa
