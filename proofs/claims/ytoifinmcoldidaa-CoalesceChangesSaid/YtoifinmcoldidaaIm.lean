import Derived.Test.YtoifinmcoldidaaMems
import Derived.Test.YtoifinmcoldidaaR7
import Derived.Test.YtoifinmcoldidaaI2
set_option linter.unusedVariables false
set_option linter.unusedSimpArgs false
namespace Go.Proofs.Ytoifinmcoldidaa
open Go.RowKit Go.Mm Sb

/-! ### what Apply does, in plain words -/
def putW (im : List (List Sec)) (x : Wr) : List (List Sec) := im.set x.vol.toNat (splice (im.getD x.vol.toNat []) x.start.toNat x.data)
def putAll (im : List (List Sec)) (l : List Wr) : List (List Sec) := l.foldl putW im
def fitAll (s : List Int) : List Wr → Int
  | [] => 0
  | x :: t => if fitW s x = 0 then fitAll s t else fitW s x
def apE (im : List (List Sec)) (l : List Wr) : Int := if sizesI (lens im) = 0 then fitAll (lens im) l else sizesI (lens im)
def apR (im : List (List Sec)) (l : List Wr) : List (List Sec) := if apE im l = 0 then putAll im l else []
theorem fitAll_step {s : List Int} {l : List Wr} {k : Nat} {x : Wr} (h : l[k]? = some x) : fitAll s (l.drop k) = if fitW s x = 0 then fitAll s (l.drop (k + 1)) else fitW s x := by
  obtain ⟨hk, rfl⟩ := List.getElem?_eq_some_iff.1 h
  rw [List.drop_eq_getElem_cons hk]; rfl
theorem putAll_take {im : List (List Sec)} {l : List Wr} {k : Nat} {x : Wr} (h : l[k]? = some x) : putAll im (l.take (k + 1)) = putW (putAll im (l.take k)) x := by
  obtain ⟨hk, rfl⟩ := List.getElem?_eq_some_iff.1 h
  unfold putAll
  rw [List.take_succ_eq_append_getElem hk, List.foldl_append]
  rfl
/-- What it says that a write fits. -/
theorem fitW_in {im : List (List Sec)} {x : Wr} (h : fitW (lens im) x = 0) : ∃ (j : Nat) (d : List Sec) (s : Nat), x.vol = j ∧ im[j]? = some d ∧ x.start = s ∧ s + x.data.length ≤ d.length ∧ x.data ≠ [] := by
  unfold fitW fitsI at h
  split at h
  · cases h
  · split at h
    · cases h
    · split at h
      · cases h
      · rename_i h1 h2 h3
        have hll : (lens im).length = im.length := by simp [lens]
        rw [hll] at h1
        obtain ⟨j, hj⟩ := Int.eq_ofNat_of_zero_le (show 0 ≤ x.vol by omega)
        obtain ⟨s, hs⟩ := Int.eq_ofNat_of_zero_le (show 0 ≤ x.start by omega)
        have hjl : j < im.length := by omega
        have e0 : (lens im).getD x.vol.toNat 0 = (im[j].length : Int) := by
          rw [hj]; simp [lens, List.getD_eq_getElem?_getD, hjl]
        rw [e0] at h3
        exact ⟨j, im[j], s, hj, List.getElem?_eq_getElem hjl, hs, by omega, by intro e; simp [e] at h2⟩
theorem putW_eq {im : List (List Sec)} {x : Wr} {j s : Nat} {d : List Sec} (hv : x.vol = j) (hd : im[j]? = some d) (hs : x.start = s) : putW im x = im.set j (splice d s x.data) := by
  unfold putW
  rw [hv, hs]
  simp [List.getD_eq_getElem?_getD, hd]
theorem lens_putW {im : List (List Sec)} {x : Wr} (h : fitW (lens im) x = 0) : lens (putW im x) = lens im := by
  obtain ⟨j, d, s, h1, h2, h3, h4, _⟩ := fitW_in h
  rw [putW_eq h1 h2 h3]
  unfold lens
  rw [List.map_set, length_splice d s x.data h4]
  obtain ⟨hj, rfl⟩ := List.getElem?_eq_some_iff.1 h2
  refine List.ext_getElem (by simp) fun i hi hi' => ?_
  simp only [List.getElem_set, List.getElem_map]
  split
  · rename_i e; subst e; rfl
  · rfl
theorem lens_putAll : ∀ {im : List (List Sec)} {l : List Wr}, (∀ x ∈ l, fitW (lens im) x = 0) → lens (putAll im l) = lens im
  | im, [], _ => rfl
  | im, x :: t, h => by
    have h1 := lens_putW (h x (by simp))
    show lens (putAll (putW im x) t) = _
    rw [lens_putAll (im := putW im x) (l := t) (fun y hy => by rw [h1]; exact h y (by simp [hy])), h1]
end Go.Proofs.Ytoifinmcoldidaa
