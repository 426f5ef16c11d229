import Derived.Test.YtoifinmcoldidaaMem8
set_option linter.unusedVariables false
set_option linter.unusedSimpArgs false
namespace Go.Mm
open Go.RowKit Sb

/-! ### an element of three cells is written anew -/
theorem flatten_set3 {css : List (List Value)} (h : ∀ cs ∈ css, cs.length = 3) {j : Nat} (hj : j < css.length) (u0 u1 u2 : Value) :
    (css.set j [u0, u1, u2]).flatten = ((css.flatten.set (j * 3 + 0) u0).set (j * 3 + 1) u1).set (j * 3 + 2) u2 := by
  obtain ⟨cs, hcs⟩ : ∃ cs, css[j]? = some cs := ⟨_, List.getElem?_eq_getElem hj⟩
  have hm : ∀ (d : List Value), d.length = 3 → ∀ x ∈ css.set j d, x.length = 3 := fun d hd x hx => by
    rcases List.mem_or_eq_of_mem_set hx with hx | rfl
    · exact h x hx
    · exact hd
  have hl := h cs (List.mem_of_getElem? hcs)
  have e1 := flatten_set h hcs 0 (by omega) u0
  have h1 : (css.set j (cs.set 0 u0))[j]? = some (cs.set 0 u0) := by simp [hj]
  have e2 := flatten_set (hm _ (by simpa using hl)) h1 1 (by omega) u1
  have h2 : ((css.set j (cs.set 0 u0)).set j ((cs.set 0 u0).set 1 u1))[j]? = some ((cs.set 0 u0).set 1 u1) := by simp [hj]
  have e3 := flatten_set (css := (css.set j (cs.set 0 u0)).set j ((cs.set 0 u0).set 1 u1)) (by rw [List.set_set]; exact hm _ (by simpa using hl)) h2 2 (by omega) u2
  rw [e2, e1] at e3
  rw [← e3, List.set_set, List.set_set]
  congr 2
  match cs, hl with
  | [_, _, _], _ => rfl
theorem OwnSl.set3 {α : Type} {R : ERel α} [st : Steady R] {e : TypeId} {w : World} {base : Nat} {S : Nat → Prop} {g n cap : Nat} {xs : List α}
    (h : OwnSl e 3 R w base S (.slice (some ⟨g, 0, none⟩) n cap) xs) {j : Nat} (hj : j < xs.length) {x' : α} {u0 u1 u2 : Value} (hR : R w (fun b => S b ∧ some b ≠ some g) [u0, u1, u2] x') :
    OwnSl e 3 R (((w.setCell ⟨g, j * 3, none⟩ u0).setCell ⟨g, j * 3 + 1, none⟩ u1).setCell ⟨g, j * 3 + 2, none⟩ u2) base S (.slice (some ⟨g, 0, none⟩) n cap) (xs.set j x') ∧
      w.grownBy (((w.setCell ⟨g, j * 3, none⟩ u0).setCell ⟨g, j * 3 + 1, none⟩ u1).setCell ⟨g, j * 3 + 2, none⟩ u2) (some g) := by
  obtain ⟨c, o1, o2, o3, o4⟩ := h
  obtain rfl : n = xs.length := by
    rcases o1.2 with ⟨hv, _⟩ | ⟨g', cap', cur, hv, _⟩
    · cases hv
    · injection hv
  have s1 := o1.stored (j * 3) u0
  have s2 := s1.1.stored (j * 3 + 1) u1
  have s3 := s2.1.stored (j * 3 + 2) u2
  have hg : w.grownBy (((w.setCell ⟨g, j * 3, none⟩ u0).setCell ⟨g, j * 3 + 1, none⟩ u1).setCell ⟨g, j * 3 + 2, none⟩ u2) (some g) :=
    (s1.2.andThen s2.2 (fun j e => .inr e)).andThen s3.2 (fun j e => .inr e)
  have hkeep : ∀ {cs' : List Value} {x : α}, R w (fun b => S b ∧ some b ≠ some g) cs' x → R (((w.setCell ⟨g, j * 3, none⟩ u0).setCell ⟨g, j * 3 + 1, none⟩ u1).setCell ⟨g, j * 3 + 2, none⟩ u2) (fun b => S b ∧ some b ≠ some g) cs' x :=
    fun hr => st.keep hr fun b hb ⟨_, hne⟩ => hg.block b hb hne
  refine ⟨⟨c.set j [u0, u1, u2], ?_, by simpa using o2, ?_, ?_⟩, hg⟩
  · rw [flatten_set3 o3 (by omega)]
    simpa using s3.1
  · intro cs hcs
    rcases List.mem_or_eq_of_mem_set hcs with hcs | rfl
    · exact o3 cs hcs
    · rfl
  · intro m cs x hm hx
    rw [List.getElem?_set] at hm hx
    by_cases hjm : j = m
    · subst hjm
      rw [if_pos rfl, if_pos (by omega)] at hm
      rw [if_pos rfl, if_pos hj] at hx
      injection hm with hm; injection hx with hx
      subst hm; subst hx
      exact hkeep hR
    · rw [if_neg hjm] at hm hx
      exact hkeep (o4 m cs x hm hx)
theorem own_ptr {e : TypeId} {k : Nat} {α : Type} {R : ERel α} {w : World} {base : Nat} {S : Nat → Prop} {v : Value} {xs : List α} (h : OwnSl e k R w base S v xs) (hne : xs ≠ []) :
    ∃ g cap, v = .slice (some ⟨g, 0, none⟩) xs.length cap ∧ base ≤ g ∧ g < w.heap.size ∧ xs.length ≤ cap ∧ cap ≤ maxLen ∧ ∀ j, w.frozen? ⟨g, j, none⟩ = false := by
  obtain ⟨c, h1, _⟩ := h
  rcases h1.2 with ⟨_, h0⟩ | ⟨g, cap, cur, hv, hbg, hg, hn, hm, _⟩
  · exact absurd (List.eq_nil_of_length_eq_zero h0) hne
  · exact ⟨g, cap, hv, hbg, (Array.getElem?_eq_some_iff.1 hg).1, hn, hm, fun j => by simp [World.frozen?, hg]⟩
end Go.Mm
