import Derived.Test.YtoifinmcoldidaaW3
set_option maxRecDepth 100000
set_option linter.unusedVariables false
set_option linter.unusedSimpArgs false
namespace Go.Proofs.Ytoifinmcoldidaa
open Go.ChangeShapes Go.WideShapes Go.ChangeAt Go.RowKit Go.Mm Sb Go.Deep

/-! ### what came in, read: a Part (a volume, a sector, extents) -/
section
variable {H : Type} {enc : TypeId × Value → H} {w : World} {spare : Nat → Bool} {held : Bool}
theorem read_part {cs : Array Value} {d : DataW H} {p : List MemPlace} (h : DataW.Trod enc Try.prog w 0 spare held 50 (.agg cs) d p) (hz : cs.size = Try.prog.cellsOf 50) :
    ∃ (vol s : Int) (vk : Value) (keep : List Ext), cs = #[.int .i64 vol, .int .i64 s, vk] ∧ In64 vol ∧ In64 s ∧ RExts w Any vk keep := by
  obtain ⟨fuel, hf⟩ := h
  have hcs : (Value.agg cs).cells.toList = cs.toList := rfl
  rw [hcs] at hf
  have h3 : Try.prog.cellsOf 50 = 3 := by kernel_rfl
  rw [h3] at hz
  have hl : cs.toList.length = 3 := by simpa using hz
  obtain ⟨xs, m, _, _, _, hlx, hf⟩ := DataW.trod_struct Try.underlying50 hf
  have hc : Try.prog.cellsOf 3 = 1 := by kernel_rfl
  have hc2 : Try.prog.cellsOf 42 = 1 := by kernel_rfl
  have h0 : DataW.trod enc Try.prog w 0 spare held m 3 ((cs.toList.drop 0).take (Try.prog.cellsOf 3)) = xs[0]? := hf 0 _ rfl
  have h1 : DataW.trod enc Try.prog w 0 spare held m 3 ((cs.toList.drop 1).take (Try.prog.cellsOf 3)) = xs[1]? := hf 1 _ rfl
  have h2 : DataW.trod enc Try.prog w 0 spare held m 42 ((cs.toList.drop 2).take (Try.prog.cellsOf 42)) = xs[2]? := hf 2 _ rfl
  rw [hc] at h0 h1
  rw [hc2] at h2
  have hlx3 : xs.length = 3 := hlx
  rw [take1 (by omega), List.getElem?_eq_getElem (by omega)] at h0 h1 h2
  obtain ⟨a, ha, _, wa⟩ := DataW.trod_int Try.underlying3 h0
  obtain ⟨b, hb, _, wb⟩ := DataW.trod_int Try.underlying3 h1
  obtain ⟨v, l, hv, hd⟩ := read_sl (P := Try.prog) (k := 2) (by omega) (R := RExt) Try.underlying42 (by kernel_rfl) (fun n cs x => read_ext) h2
  obtain ⟨c0, c1, c2, hcl⟩ : ∃ c0 c1 c2, cs.toList = [c0, c1, c2] := by
    match cs.toList, hl with
    | [c0, c1, c2], _ => exact ⟨_, _, _, rfl⟩
  simp only [hcl] at ha hb hv
  simp at ha hb hv
  subst ha hb hv
  refine ⟨a, b, _, l, ?_, wf_in64 wa, wf_in64 wb, hd⟩
  apply Array.toList_inj.1
  rw [hcl]
end
end Go.Proofs.Ytoifinmcoldidaa
