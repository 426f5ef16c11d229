import Derived.Test.YtccbbecfmfldbaaRows
import Derived.Test.YtccbbecfmfldbaaQ14
import Derived.ProofKit
import Derived.OpenShut
import Derived.Deep.Slices
import Derived.Carry
import Derived.Test.YtccbbecfmfldbaaQ17
import Derived.Test.YtccbbecfmfldbaaQ20
set_option maxRecDepth 100000
set_option linter.unusedVariables false
set_option linter.unusedSimpArgs false
namespace Go.Proofs.Ytccbbecfmfldbaa
open Go.ChangeShapes Go.WideShapes Go.ChangeAt Go.RowKit Go.Mm Sb Go.Deep

/-! ### what came in, read -/
section
variable {H : Type} {enc : TypeId × Value → H} {w : World} {spare : Nat → Bool} {held : Bool}
theorem read_sl {P : Program} {t e : TypeId} {k : Nat} (hk : 0 < k) {α : Type} [Inhabited α] {R : ERel α} (ht : P.underlying t = some (.slice e)) (hC : P.cellsOf e = k)
    (hel : ∀ (n : Nat) (cs : List Value) (x : DataW H × List MemPlace), cs.length = k → DataW.trod enc P w 0 spare held n e cs = some x → ∃ y, R w Any cs y)
    {fuel : Nat} {cs : List Value} {x : DataW H × List MemPlace} (h : DataW.trod enc P w 0 spare held fuel t cs = some x) : ∃ v xs, cs = [v] ∧ RSl k R w Any v xs := by
  rcases open_slice ht h with ⟨rfl, _⟩ | ⟨a, len, cap, m, n, D, Pl, rfl, _, hl, hm, hmm, _, hi⟩
  · exact ⟨_, [], rfl, RSl.nil _ _⟩
  · have hlm : len ≤ m := by rw [hmm]; split <;> omega
    rw [hC] at hi
    have h2 : ∀ i, ∃ (y : α), i < len → ∃ cs', w.cells? 0 (a.add (i * k)) k = some cs' ∧ R w Any cs' y := fun i => by
      by_cases hil : i < len
      · obtain ⟨cs', h1, h3⟩ := hi i (by omega)
        obtain ⟨y, hy⟩ := hel n cs' _ (World.cells?_some h1).2.1 h3
        exact ⟨y, fun _ => ⟨cs', h1, hy⟩⟩
      · exact ⟨default, fun hh => absurd hh hil⟩
    obtain ⟨Y, hY⟩ := Classical.axiomOfChoice h2
    refine ⟨_, (List.range len).map Y, rfl, ?_⟩
    refine ⟨some a, cap, by simp, by simpa using hl, hm, fun h0 => ?_⟩
    have h0 : 0 < len := by simpa using h0
    obtain ⟨b, off, spot⟩ := a
    obtain ⟨cs0, hc0, _⟩ := hY 0 h0
    obtain ⟨_, hl0, hc0⟩ := World.cells?_some hc0
    have hc00 := hc0 0 hk
    rw [List.getElem?_eq_getElem (by omega)] at hc00
    have hspot : spot = none := by simpa [Addr.add] using World.cell?_spot hc00
    subst hspot
    refine ⟨b, off, rfl, ?_, trivial, fun j x hj => ?_⟩
    · have := World.block_lt_of_cell? w _ hc00
      simpa [Addr.add] using this
    · have hjl : j < len := by have := (List.getElem?_eq_some_iff.1 hj).1; simpa using this
      simp [hjl] at hj
      subst hj
      obtain ⟨cs', hc', hR⟩ := hY j hjl
      obtain ⟨_, hl', hc'⟩ := World.cells?_some hc'
      refine ⟨cs', hl', fun i hik => ?_, hR⟩
      have := hc' i hik
      rw [Addr.add_lit, Addr.add_lit] at this
      exact this
theorem take1 {cs : List Value} {i : Nat} (h : i < cs.length) : (cs.drop i).take 1 = [cs[i]] := by
  rw [List.drop_eq_getElem_cons h]; rfl
theorem wf_in64 {x : Int} (h : (Lit.int .i64 x).wf = true) : In64 x := by
  have e1 : IntKind.min .i64 = -9223372036854775808 := by decide
  have e2 : IntKind.max .i64 = 9223372036854775807 := by decide
  simp only [Lit.wf, e1, e2, Bool.and_eq_true, decide_eq_true_eq] at h
  exact h
instance : Inhabited Sec := ⟨Sec.zero⟩
instance : Inhabited Wr := ⟨⟨0, 0, []⟩⟩
instance : Inhabited Ext := ⟨⟨0, 0⟩⟩
theorem read_sec {n : Nat} {cs : List Value} {x : DataW H × List MemPlace} (hl : cs.length = 8) (h : DataW.trod enc Try.prog w 0 spare held n 99 cs = some x) : ∃ y, RSec w Any cs y := by
  obtain ⟨xs, m, _, _, _, hlx, hf⟩ := DataW.trod_array Try.underlying99 h
  have hc : Try.prog.cellsOf 5 = 1 := by kernel_rfl
  have g : ∀ i (hi : i < 8), ∃ b, cs[i]'(by omega) = .int .u8 b := fun i hi => by
    have h1 := hf i hi
    rw [hc, Nat.mul_one, take1 (by omega), List.getElem?_eq_getElem (by omega)] at h1
    obtain ⟨b, hb, _⟩ := DataW.trod_int Try.underlying5 h1
    exact ⟨b, by injection hb⟩
  obtain ⟨b0, e0⟩ := g 0 (by omega)
  obtain ⟨b1, e1⟩ := g 1 (by omega)
  obtain ⟨b2, e2⟩ := g 2 (by omega)
  obtain ⟨b3, e3⟩ := g 3 (by omega)
  obtain ⟨b4, e4⟩ := g 4 (by omega)
  obtain ⟨b5, e5⟩ := g 5 (by omega)
  obtain ⟨b6, e6⟩ := g 6 (by omega)
  obtain ⟨b7, e7⟩ := g 7 (by omega)
  refine ⟨⟨b0, b1, b2, b3, b4, b5, b6, b7⟩, ?_⟩
  obtain ⟨c0, c1, c2, c3, c4, c5, c6, c7, rfl⟩ : ∃ c0 c1 c2 c3 c4 c5 c6 c7, cs = [c0, c1, c2, c3, c4, c5, c6, c7] := by
    match cs, hl with
    | [c0, c1, c2, c3, c4, c5, c6, c7], _ => exact ⟨_, _, _, _, _, _, _, _, rfl⟩
  simp only [List.getElem_cons_zero, List.getElem_cons_succ] at e0 e1 e2 e3 e4 e5 e6 e7
  subst e0 e1 e2 e3 e4 e5 e6 e7
  rfl
theorem read_wr {n : Nat} {cs : List Value} {x : DataW H × List MemPlace} (hl : cs.length = 3) (h : DataW.trod enc Try.prog w 0 spare held n 54 cs = some x) : ∃ y, RWr w Any cs y := by
  obtain ⟨xs, m, _, _, _, hlx, hf⟩ := DataW.trod_struct Try.underlying54 h
  have hc : Try.prog.cellsOf 3 = 1 := by kernel_rfl
  have hc2 : Try.prog.cellsOf 52 = 1 := by kernel_rfl
  have hc8 : Try.prog.cellsOf 99 = 8 := by kernel_rfl
  have h0 : DataW.trod enc Try.prog w 0 spare held m 3 ((cs.drop 0).take (Try.prog.cellsOf 3)) = xs[0]? := hf 0 _ rfl
  have h1 : DataW.trod enc Try.prog w 0 spare held m 3 ((cs.drop 1).take (Try.prog.cellsOf 3)) = xs[1]? := hf 1 _ rfl
  have h2 : DataW.trod enc Try.prog w 0 spare held m 52 ((cs.drop 2).take (Try.prog.cellsOf 52)) = xs[2]? := hf 2 _ rfl
  rw [hc] at h0 h1
  rw [hc2] at h2
  have hlx3 : xs.length = 3 := hlx
  rw [take1 (by omega), List.getElem?_eq_getElem (by omega)] at h0 h1 h2
  obtain ⟨a, ha, _, wa⟩ := DataW.trod_int Try.underlying3 h0
  obtain ⟨b, hb, _, wb⟩ := DataW.trod_int Try.underlying3 h1
  obtain ⟨v, d, hv, hd⟩ := read_sl (P := Try.prog) (k := 8) (by omega) (R := RSec) Try.underlying52 hc8 (fun n cs x => read_sec) h2
  obtain ⟨c0, c1, c2, rfl⟩ : ∃ c0 c1 c2, cs = [c0, c1, c2] := by
    match cs, hl with
    | [c0, c1, c2], _ => exact ⟨_, _, _, rfl⟩
  simp at ha hb hv
  subst ha hb hv
  exact ⟨⟨a, b, d⟩, wf_in64 wa, wf_in64 wb, _, rfl, hd⟩
/-- A list of writes that came in. -/
theorem read_wrs {v : Value} {d : DataW H} {p : List MemPlace} (h : DataW.Trod enc Try.prog w 0 spare held 86 v d p) (hc : v.cells.toList = [v]) : ∃ l, RWrs w Any v l := by
  obtain ⟨fuel, hf⟩ := h
  rw [hc] at hf
  obtain ⟨v', l, e, hl⟩ := read_sl (P := Try.prog) (k := 3) (by omega) (R := RWr) Try.underlying86 (by kernel_rfl) (fun n cs x => read_wr) hf
  injection e with e
  subst e
  exact ⟨l, hl⟩
end
end Go.Proofs.Ytccbbecfmfldbaa

set_option maxRecDepth 100000
set_option linter.unusedVariables false
set_option linter.unusedSimpArgs false
namespace Go.Proofs.Ytccbbecfmfldbaa
open Go.ChangeShapes Go.WideShapes Go.ChangeAt Go.RowKit Go.Mm Sb Go.Deep

/-! ### what came in, read: numbers, extents -/
section
variable {H : Type} {enc : TypeId × Value → H} {w : World} {spare : Nat → Bool} {held : Bool}
theorem read_int {n : Nat} {cs : List Value} {x : DataW H × List MemPlace} (hl : cs.length = 1) (h : DataW.trod enc Try.prog w 0 spare held n 3 cs = some x) : ∃ y, RInt w Any cs y := by
  obtain ⟨c, rfl⟩ : ∃ c, cs = [c] := List.length_eq_one_iff.1 hl
  obtain ⟨a, ha, _, wa⟩ := DataW.trod_int Try.underlying3 h
  exact ⟨a, wf_in64 wa, ha⟩
theorem read_ints {v : Value} {d : DataW H} {p : List MemPlace} (h : DataW.Trod enc Try.prog w 0 spare held 63 v d p) (hc : v.cells.toList = [v]) : ∃ l, RInts w Any v l := by
  obtain ⟨fuel, hf⟩ := h
  rw [hc] at hf
  obtain ⟨v', l, e, hl⟩ := read_sl (P := Try.prog) (k := 1) (by omega) (R := RInt) Try.underlying63 (by kernel_rfl) (fun n cs x => read_int) hf
  injection e with e
  subst e
  exact ⟨l, hl⟩
end
end Go.Proofs.Ytccbbecfmfldbaa

set_option maxRecDepth 100000
set_option linter.unusedVariables false
set_option linter.unusedSimpArgs false
namespace Go.Proofs.Ytccbbecfmfldbaa
open Go.ChangeShapes Go.WideShapes Go.ChangeAt Go.RowKit Go.Mm Sb Go.Deep

/-! ### what came in, read: an image -/
section
variable {H : Type} {enc : TypeId × Value → H} {w : World} {spare : Nat → Bool} {held : Bool}
theorem read_vol {n : Nat} {cs : List Value} {x : DataW H × List MemPlace} (hl : cs.length = 1) (h : DataW.trod enc Try.prog w 0 spare held n 52 cs = some x) : ∃ y, RVol w Any cs y := by
  obtain ⟨v, xs, e, hx⟩ := read_sl (P := Try.prog) (k := 8) (by omega) (R := RSec) Try.underlying52 (by kernel_rfl) (fun n cs x => read_sec) h
  exact ⟨xs, v, e, hx⟩
theorem read_img {v : Value} {d : DataW H} {p : List MemPlace} (h : DataW.Trod enc Try.prog w 0 spare held 23 v d p) (hc : v.cells.toList = [v]) : ∃ l, RImg w Any v l := by
  obtain ⟨fuel, hf⟩ := h
  rw [hc] at hf
  obtain ⟨v', l, e, hl⟩ := read_sl (P := Try.prog) (k := 1) (by omega) (R := RVol) Try.underlying23 (by kernel_rfl) (fun n cs x => read_vol) hf
  injection e with e
  subst e
  exact ⟨l, hl⟩
end
end Go.Proofs.Ytccbbecfmfldbaa

set_option maxRecDepth 100000
set_option linter.unusedVariables false
set_option linter.unusedSimpArgs false
namespace Go.Proofs.Ytccbbecfmfldbaa
open Go.ChangeShapes Go.WideShapes Go.ChangeAt Go.RowKit Go.Mm Sb Go.Deep

/-! ### what came in, read: snapshots -/
section
variable {H : Type} {enc : TypeId × Value → H} {w : World} {spare : Nat → Bool} {held : Bool}
instance : Inhabited Snap := ⟨⟨0, 0, []⟩⟩
theorem read_snap {n : Nat} {cs : List Value} {x : DataW H × List MemPlace} (hl : cs.length = 3) (h : DataW.trod enc Try.prog w 0 spare held n 88 cs = some x) : ∃ y, RSnap w Any cs y := by
  obtain ⟨xs, m, _, _, _, hlx, hf⟩ := DataW.trod_struct Try.underlying88 h
  have hc : Try.prog.cellsOf 3 = 1 := by kernel_rfl
  have hc2 : Try.prog.cellsOf 86 = 1 := by kernel_rfl
  have h0 : DataW.trod enc Try.prog w 0 spare held m 3 ((cs.drop 0).take (Try.prog.cellsOf 3)) = xs[0]? := hf 0 _ rfl
  have h1 : DataW.trod enc Try.prog w 0 spare held m 3 ((cs.drop 1).take (Try.prog.cellsOf 3)) = xs[1]? := hf 1 _ rfl
  have h2 : DataW.trod enc Try.prog w 0 spare held m 86 ((cs.drop 2).take (Try.prog.cellsOf 86)) = xs[2]? := hf 2 _ rfl
  rw [hc] at h0 h1
  rw [hc2] at h2
  have hlx3 : xs.length = 3 := hlx
  rw [take1 (by omega), List.getElem?_eq_getElem (by omega)] at h0 h1 h2
  obtain ⟨a, ha, _, wa⟩ := DataW.trod_int Try.underlying3 h0
  obtain ⟨b, hb, _, wb⟩ := DataW.trod_int Try.underlying3 h1
  obtain ⟨v, d, hv, hd⟩ := read_sl (P := Try.prog) (k := 3) (by omega) (R := RWr) Try.underlying86 (by kernel_rfl) (fun n cs x => read_wr) h2
  obtain ⟨c0, c1, c2, rfl⟩ : ∃ c0 c1 c2, cs = [c0, c1, c2] := by
    match cs, hl with
    | [c0, c1, c2], _ => exact ⟨_, _, _, rfl⟩
  simp at ha hb hv
  subst ha hb hv
  exact ⟨⟨a, b, d⟩, wf_in64 wa, wf_in64 wb, _, rfl, hd⟩
theorem read_snaps {cs : Array Value} {d : DataW H} {p : List MemPlace} (h : DataW.Trod enc Try.prog w 0 spare held 26 (.agg cs) d p) (hz : cs.size = Try.prog.cellsOf 26) :
    ∃ (vc vi : Value) (s : Snaps), cs = #[vc, vi] ∧ RImg w Any vc s.cur ∧ RSnaps w Any vi s.items := by
  obtain ⟨fuel, hf⟩ := h
  have hcs : (Value.agg cs).cells.toList = cs.toList := rfl
  rw [hcs] at hf
  have h3 : Try.prog.cellsOf 26 = 2 := by kernel_rfl
  rw [h3] at hz
  have hl : cs.toList.length = 2 := by simpa using hz
  obtain ⟨xs, m, _, _, _, hlx, hf⟩ := DataW.trod_struct Try.underlying26 hf
  have hc : Try.prog.cellsOf 23 = 1 := by kernel_rfl
  have hc2 : Try.prog.cellsOf 24 = 1 := by kernel_rfl
  have h0 : DataW.trod enc Try.prog w 0 spare held m 23 ((cs.toList.drop 0).take (Try.prog.cellsOf 23)) = xs[0]? := hf 0 _ rfl
  have h1 : DataW.trod enc Try.prog w 0 spare held m 24 ((cs.toList.drop 1).take (Try.prog.cellsOf 24)) = xs[1]? := hf 1 _ rfl
  rw [hc] at h0
  rw [hc2] at h1
  have hlx3 : xs.length = 2 := hlx
  rw [take1 (by omega), List.getElem?_eq_getElem (by omega)] at h0 h1
  obtain ⟨v0, im, hv0, hd0⟩ := read_sl (P := Try.prog) (k := 1) (by omega) (R := RVol) Try.underlying23 (by kernel_rfl) (fun n cs x => read_vol) h0
  obtain ⟨v1, its, hv1, hd1⟩ := read_sl (P := Try.prog) (k := 3) (by omega) (R := RSnap) Try.underlying24 (by kernel_rfl) (fun n cs x => read_snap) h1
  obtain ⟨c0, c1, hcl⟩ : ∃ c0 c1, cs.toList = [c0, c1] := by
    match cs.toList, hl with
    | [c0, c1], _ => exact ⟨_, _, rfl⟩
  simp only [hcl] at hv0 hv1
  simp at hv0 hv1
  subst hv0 hv1
  refine ⟨_, _, ⟨im, its⟩, ?_, hd0, hd1⟩
  apply Array.toList_inj.1
  rw [hcl]
end
end Go.Proofs.Ytccbbecfmfldbaa
