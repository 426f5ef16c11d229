import Derived.Test.YtoifinmcoldidaaMem7
import Derived.Test.YtoifinmcoldidaaMem5
import Derived.Deep.OwnRows
set_option linter.unusedVariables false
set_option linter.unusedSimpArgs false
namespace Go.Mm
open Go.RowKit Sb

/-! ### an element of an owned row turns; rows of marks -/
theorem flatten_set {k : Nat} : ∀ {css : List (List Value)} (h : ∀ cs ∈ css, cs.length = k) {j : Nat} {cs : List Value} (hj : css[j]? = some cs) (i : Nat) (hi : i < k) (u : Value), (css.set j (cs.set i u)).flatten = css.flatten.set (j * k + i) u
  | [], _, _, _, hj, _, _, _ => by simp at hj
  | c :: css, h, 0, cs, hj, i, hi, u => by
    simp at hj; subst hj
    have := h c (by simp)
    simp only [List.set_cons_zero, List.flatten_cons, Nat.zero_mul, Nat.zero_add]
    rw [List.set_append_left _ _ (by omega)]
  | c :: css, h, j + 1, cs, hj, i, hi, u => by
    have hc := h c (by simp)
    have ih := flatten_set (css := css) (fun x hx => h x (by simp [hx])) (j := j) (by simpa using hj) i hi u
    simp only [List.set_cons_succ, List.flatten_cons]
    rw [ih, List.set_append_right _ _ (by rw [hc, Nat.add_mul]; omega)]
    congr 2
    rw [hc, Nat.add_mul]; omega

theorem OwnSl.setPure {α : Type} {enc : α → List Value} {e : TypeId} {k : Nat} {w : World} {base : Nat} {S : Nat → Prop} {g n cap : Nat} {xs : List α}
    (h : OwnSl e k (RPure enc) w base S (.slice (some ⟨g, 0, none⟩) n cap) xs) (hk : ∀ x, (enc x).length = k) {j i : Nat} {x x' : α} (hj : xs[j]? = some x) (hi : i < k) {u : Value} (hx : enc x' = (enc x).set i u) :
    OwnSl e k (RPure enc) (w.setCell ⟨g, j * k + i, none⟩ u) base S (.slice (some ⟨g, 0, none⟩) n cap) (xs.set j x') ∧ w.grownBy (w.setCell ⟨g, j * k + i, none⟩ u) (some g) := by
  obtain ⟨c, o1, o2, o3, o4⟩ := h
  have hc : c = xs.map enc := by
    refine List.ext_getElem (by simpa using o2) fun i hi hi' => ?_
    have := o4 i _ _ (List.getElem?_eq_getElem hi) (List.getElem?_eq_getElem (by omega))
    simpa [RPure] using this
  subst hc
  have hjl : j < xs.length := (List.getElem?_eq_some_iff.1 hj).1
  obtain rfl : n = xs.length := by
    rcases o1.2 with ⟨hv, _⟩ | ⟨g', cap', cur, hv, _⟩
    · cases hv
    · injection hv
  have hlt : j * k + i < xs.length * k := by
    have : (j + 1) * k ≤ xs.length * k := Nat.mul_le_mul_right _ hjl
    rw [Nat.add_mul] at this; omega
  have := o1.stored (j * k + i) u
  refine ⟨⟨(xs.set j x').map enc, ?_, by simp, ?_, ?_⟩, this.2⟩
  · rw [List.map_set, hx, flatten_set (by simpa using fun a _ => hk a) (by simp [hj]) i hi u]
    simpa using this.1
  · intro cs hcs
    obtain ⟨y, _, rfl⟩ := List.mem_map.1 hcs
    exact hk y
  · intro m cs y hm hy
    rw [List.getElem?_map, hy] at hm
    simp at hm
    exact hm.symm

/-- A row of marks: 'make([]bool, n)' and what is stored there. -/
def markCells (p : List Bool) : Array Value := (p.map Value.bool).toArray
theorem markCells_made (n : Nat) : madeCells #[.bool false] n = markCells (List.replicate n false) := by
  apply Array.ext'
  rw [toList_madeCells_one]
  simp [markCells]
theorem markCells_set (p : List Bool) (i : Nat) (b : Bool) : (markCells p).setIfInBounds i (.bool b) = markCells (p.set i b) := by
  simp [markCells, List.map_set]
theorem markCells_get {p : List Bool} {i : Nat} {b : Bool} (h : p[i]? = some b) : (markCells p)[i]? = some (.bool b) := by
  simp [markCells, h]
/-- marks 0 to n - 1 as a function says -/
def marksOf (n : Nat) (p : Int → Bool) : List Bool := (List.range n).map fun i => p (i : Nat)
theorem marksOf_len (n : Nat) (p : Int → Bool) : (marksOf n p).length = n := by simp [marksOf]
theorem marksOf_get {n : Nat} (p : Int → Bool) {i : Nat} (h : i < n) : (marksOf n p)[i]? = some (p i) := by simp [marksOf, h]
theorem marksOf_none (n : Nat) : List.replicate n false = marksOf n fun _ => false := by
  refine List.ext_getElem (by simp [marksOf]) fun i h1 h2 => by simp [marksOf]
theorem marksOf_congr {n : Nat} {p q : Int → Bool} (h : ∀ s : Int, 0 ≤ s → s < n → p s = q s) : marksOf n p = marksOf n q := by
  refine List.ext_getElem (by simp [marksOf]) fun i h1 h2 => ?_
  simp [marksOf] at h1 ⊢
  exact h i (by omega) (by omega)
theorem marksOf_set {n : Nat} (p : Int → Bool) {i : Nat} (h : i < n) : (marksOf n p).set i true = marksOf n fun s => p s || decide (s = i) := by
  refine List.ext_getElem (by simp [marksOf]) fun j h1 h2 => ?_
  simp only [List.getElem_set, marksOf, List.getElem_map, List.getElem_range]
  by_cases hj : i = j
  · subst hj; simp
  · have : ¬ ((j : Int) = (i : Int)) := by omega
    simp [hj, this]
end Go.Mm
