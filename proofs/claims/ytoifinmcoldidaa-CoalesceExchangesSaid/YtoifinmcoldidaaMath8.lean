import Derived.Test.YtoifinmcoldidaaMath7
set_option linter.unusedVariables false
namespace Sb

/-! ### two neighbours change places -/
theorem swap_split {a : List Wr} {i : Nat} {x y : Wr} (hx : a[i]? = some x) (hy : a[i + 1]? = some y) : ∃ p q, a = p ++ x :: y :: q ∧ (a.set i y).set (i + 1) x = p ++ y :: x :: q := by
  obtain ⟨hi, rfl⟩ := List.getElem?_eq_some_iff.1 hx
  obtain ⟨hi1, rfl⟩ := List.getElem?_eq_some_iff.1 hy
  have e : a = a.take i ++ a[i] :: a[i + 1] :: a.drop (i + 2) := by
    rw [← List.drop_eq_getElem_cons hi1, ← List.drop_eq_getElem_cons hi, List.take_append_drop]
  refine ⟨a.take i, a.drop (i + 2), e, ?_⟩
  refine List.ext_getElem? fun k => ?_
  have hl : (a.take i).length = i := by rw [List.length_take]; omega
  rw [List.getElem?_set, List.getElem?_set]
  rcases Nat.lt_trichotomy k i with h | h | h
  · rw [if_neg (by omega), if_neg (by omega), List.getElem?_append_left (by omega), List.getElem?_take, if_pos h]
  · subst h
    rw [if_neg (by omega), if_pos rfl, List.getElem?_append_right (by omega), hl]
    simp [hi]
  · rcases Nat.eq_or_lt_of_le (Nat.succ_le_of_lt h) with h2 | h2
    · subst h2
      rw [if_pos rfl, List.getElem?_append_right (by omega), hl]
      have : i.succ - i = 1 := by omega
      simp [this, hi1]
    · rw [if_neg (by omega), if_neg (by omega), List.getElem?_append_right (by omega), hl]
      obtain ⟨m, hm⟩ : ∃ m, k = i + 2 + m := ⟨k - (i + 2), by omega⟩
      subst hm
      have : i + 2 + m - i = m + 2 := by omega
      simp [this, List.getElem?_drop]
def Overlap (x y : Wr) : Prop := x.vol = y.vol ∧ x.start < y.start + y.data.length ∧ y.start < x.start + x.data.length
theorem swap_eff {a : List Wr} {i : Nat} {x y : Wr} (hx : a[i]? = some x) (hy : a[i + 1]? = some y) (hno : ¬ Overlap x y) : eff ((a.set i y).set (i + 1) x) = eff a := by
  obtain ⟨p, q, h1, h2⟩ := swap_split hx hy
  rw [h2]
  conv => rhs; rw [h1]
  funext v s
  rw [eff_append, eff_append]
  congr 1
  simp only [eff_cons]
  rw [Option.or_assoc, Option.or_assoc]
  congr 1
  rcases hp : x.at? v s with _ | u
  · simp
  · rcases hq : y.at? v s with _ | u2
    · simp
    · exfalso
      have h3 := at?_isSome.1 (show (x.at? v s).isSome = true by rw [hp]; rfl)
      have h4 := at?_isSome.1 (show (y.at? v s).isSome = true by rw [hq]; rfl)
      exact hno ⟨by omega, by omega, by omega⟩
theorem swap_all {P : Wr → Prop} {a : List Wr} {i : Nat} {x y : Wr} (hx : a[i]? = some x) (hy : a[i + 1]? = some y) (h : ∀ z ∈ a, P z) : ∀ z ∈ (a.set i y).set (i + 1) x, P z := by
  intro z hz
  rcases List.mem_or_eq_of_mem_set hz with hz | rfl
  · rcases List.mem_or_eq_of_mem_set hz with hz | rfl
    · exact h z hz
    · exact h _ (List.mem_of_getElem? hy)
  · exact h _ (List.mem_of_getElem? hx)
end Sb
