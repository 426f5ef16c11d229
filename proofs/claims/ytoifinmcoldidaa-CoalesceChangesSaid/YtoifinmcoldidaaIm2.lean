import Derived.Test.YtoifinmcoldidaaIm
import Derived.Test.YtoifinmcoldidaaC20
set_option linter.unusedVariables false
set_option linter.unusedSimpArgs false
namespace Go.Proofs.Ytoifinmcoldidaa
open Go.RowKit Go.Mm Sb

/-! ### a list and its canonical list change an image in the same way -/
def get2 (im : List (List Sec)) (v s : Nat) : Option Sec := (im[v]?).bind fun d => d[s]?
theorem splice_get (d x : List Sec) (o s : Nat) (h : o + x.length ≤ d.length) : (splice d o x)[s]? = if o ≤ s ∧ s < o + x.length then x[s - o]? else d[s]? := by
  unfold splice
  have hl : (d.take o).length = o := by rw [List.length_take]; omega
  by_cases h1 : s < o
  · rw [List.getElem?_append_left (by omega), List.getElem?_take, if_pos h1, if_neg (by omega)]
  · rw [List.getElem?_append_right (by omega), hl]
    by_cases h2 : s < o + x.length
    · rw [List.getElem?_append_left (by omega), if_pos ⟨by omega, h2⟩]
    · rw [List.getElem?_append_right (by omega), if_neg (by omega), List.getElem?_drop]
      congr 1
      omega
theorem get2_putW {im : List (List Sec)} {x : Wr} (h : fitW (lens im) x = 0) (v s : Nat) : get2 (putW im x) v s = (x.at? v s).or (get2 im v s) := by
  obtain ⟨j, d, o, h1, h2, h3, h4, _⟩ := fitW_in h
  rw [putW_eq h1 h2 h3]
  unfold get2
  by_cases hv : j = v
  · subst hv
    obtain ⟨hj, _⟩ := List.getElem?_eq_some_iff.1 h2
    rw [List.getElem?_set, if_pos rfl, if_pos hj, h2]
    show (splice d o x.data)[s]? = _
    rw [splice_get d x.data o s h4]
    by_cases hs : o ≤ s ∧ s < o + x.data.length
    · rw [if_pos hs, at?_some_of ⟨h1, by omega, by omega⟩, Option.some_or, h3]
      have e1 : ((s : Int) - (o : Int)).toNat = s - o := by omega
      rw [e1, List.getD_eq_getElem?_getD, List.getElem?_eq_getElem (show s - o < x.data.length by omega)]
      rfl
    · rw [if_neg hs, at?_none_of (by omega), Option.none_or]; rfl
  · rw [List.getElem?_set, if_neg hv, at?_none_of (by omega), Option.none_or]
theorem get2_putAll : ∀ {l : List Wr} {im : List (List Sec)}, (∀ x ∈ l, fitW (lens im) x = 0) → ∀ v s : Nat, get2 (putAll im l) v s = (eff l v s).or (get2 im v s)
  | [], im, _, v, s => rfl
  | x :: t, im, h, v, s => by
    have h1 := lens_putW (h x (by simp))
    show get2 (putAll (putW im x) t) v s = _
    rw [get2_putAll (im := putW im x) (fun y hy => by rw [h1]; exact h y (by simp [hy])), get2_putW (h x (by simp)), eff_cons, Option.or_assoc]
theorem img_ext {a b : List (List Sec)} (hl : lens a = lens b) (h : ∀ v s, get2 a v s = get2 b v s) : a = b := by
  have hlen : a.length = b.length := by have := congrArg List.length hl; simpa [lens] using this
  refine List.ext_getElem hlen fun v h1 h2 => ?_
  refine List.ext_getElem? fun s => ?_
  have := h v s
  unfold get2 at this
  rw [List.getElem?_eq_getElem h1, List.getElem?_eq_getElem h2] at this
  exact this
theorem put_same {im : List (List Sec)} {l l' : List Wr} (h : ∀ x ∈ l, fitW (lens im) x = 0) (h' : ∀ x ∈ l', fitW (lens im) x = 0) (he : eff l = eff l') : putAll im l = putAll im l' := by
  refine img_ext ((lens_putAll h).trans (lens_putAll h').symm) fun v s => ?_
  rw [get2_putAll h, get2_putAll h', he]
theorem fitsI_zero {S : List Int} {a b : Int} {n : Nat} : fitsI S a b n = 0 ↔ (0 ≤ a ∧ a < S.length ∧ n ≠ 0 ∧ 0 ≤ b ∧ b + n ≤ S.getD a.toNat 0) := by
  unfold fitsI
  constructor
  · intro h
    split at h
    · cases h
    · split at h
      · cases h
      · split at h
        · cases h
        · refine ⟨by omega, by omega, by assumption, by omega, by omega⟩
  · rintro ⟨h1, h2, h3, h4, h5⟩
    rw [if_neg (by omega), if_neg h3, if_neg (by omega)]
theorem fit_canon {S : List Int} {l c : List Wr} (hc : Canon c) (he : eff c = eff l) (h : ∀ x ∈ l, fitW S x = 0) : ∀ w ∈ c, fitW S w = 0 := by
  intro w hw
  have hne := hc.ne w hw
  have hlen := len_pos hne
  have key : ∀ s : Int, w.start ≤ s → s < w.start + w.data.length → ∃ x ∈ l, x.vol = w.vol ∧ x.start ≤ s ∧ s < x.start + x.data.length := fun s h1 h2 => by
    have h3 : (eff c w.vol s).isSome = true := by
      rw [eff_isSome]
      exact List.any_eq_true.2 ⟨w, hw, at?_isSome.2 ⟨rfl, h1, h2⟩⟩
    rw [he, eff_isSome] at h3
    obtain ⟨x, hx, hs⟩ := List.any_eq_true.1 h3
    exact ⟨x, hx, at?_isSome.1 hs⟩
  obtain ⟨x, hx, x1, x2, x3⟩ := key w.start (by omega) (by omega)
  obtain ⟨y, hy, y1, y2, y3⟩ := key (w.start + w.data.length - 1) (by omega) (by omega)
  obtain ⟨a1, a2, a3, a4, a5⟩ := fitsI_zero.1 (h x hx)
  obtain ⟨b1, b2, b3, b4, b5⟩ := fitsI_zero.1 (h y hy)
  rw [x1] at a1 a2
  rw [y1] at b5
  exact fitsI_zero.2 ⟨a1, a2, by intro e; simp [List.eq_nil_of_length_eq_zero e] at hne, by omega, by omega⟩
theorem fit_placed {S : List Int} (hS : sizesI S = 0) {x : Wr} (h : fitW S x = 0) : Placed x := by
  obtain ⟨a1, a2, a3, a4, a5⟩ := fitsI_zero.1 h
  have h1 := sizesI_len hS
  have hm : S.getD x.vol.toNat 0 ≤ 4096 := by
    rw [List.getD_eq_getElem?_getD]
    rcases hg : S[x.vol.toNat]? with _ | y
    · simp
    · simp; exact (sizesI_ok hS y (List.mem_of_getElem? hg)).2
  exact ⟨by omega, by omega, by intro e; simp [e] at a3, by omega, by omega⟩
theorem fitAll_zero : ∀ {S : List Int} {l : List Wr}, fitAll S l = 0 → ∀ x ∈ l, fitW S x = 0
  | S, [], _, x, hx => by simp at hx
  | S, y :: t, h, x, hx => by
    unfold fitAll at h
    split at h
    · rcases List.mem_cons.1 hx with rfl | hx
      · assumption
      · exact fitAll_zero h x hx
    · rename_i hy; exact absurd h hy
theorem fitAll_of : ∀ {S : List Int} {l : List Wr}, (∀ x ∈ l, fitW S x = 0) → fitAll S l = 0
  | S, [], _ => rfl
  | S, y :: t, h => by
    unfold fitAll
    rw [if_pos (h y (by simp))]
    exact fitAll_of fun x hx => h x (by simp [hx])
theorem apE_zero {im : List (List Sec)} {l : List Wr} (h : apE im l = 0) : sizesI (lens im) = 0 ∧ ∀ x ∈ l, fitW (lens im) x = 0 := by
  unfold apE at h
  split at h
  · rename_i hz; exact ⟨hz, fitAll_zero h⟩
  · rename_i hz; exact absurd h hz
theorem apE_of {im : List (List Sec)} {l : List Wr} (hz : sizesI (lens im) = 0) (h : ∀ x ∈ l, fitW (lens im) x = 0) : apE im l = 0 := by
  unfold apE; rw [if_pos hz]; exact fitAll_of h
theorem chk_canonF {S : List Int} : ∀ {p : Option Wr} {l : List Wr}, Canon l → (∀ w ∈ l, fitW S w = 0) → (∀ x, p = some x → ∀ w ∈ l, Behind x w) → chkI (fitW S) p l = 0
  | none, [], _, _, _ => rfl
  | some _, [], _, _, _ => rfl
  | none, w :: t, hc, hp, hb => by
    unfold chkI
    rw [if_pos (hp w (by simp))]
    exact chk_canonF hc.tail (fun y hy => hp y (by simp [hy])) (fun x hx => by injection hx with hx; subst hx; exact hc.head)
  | some x, w :: t, hc, hp, hb => by
    unfold chkI
    have hbw := hb x rfl w (by simp)
    unfold Behind at hbw
    rw [if_pos (hp w (by simp)), if_neg (by omega)]
    exact chk_canonF hc.tail (fun y hy => hp y (by simp [hy])) (fun z hz => by injection hz with hz; subst hz; exact hc.head)
/-- The sectors of a list, one after another. -/
def locs (l : List Wr) : List SLoc := l.flatMap fun w => (List.range w.data.length).map fun (k : Nat) => (w.vol, w.start + (k : Int))
theorem locs_len (l : List Wr) : (locs l).length = secN l := by
  induction l with
  | nil => rfl
  | cons w t ih =>
    have e : locs (w :: t) = ((List.range w.data.length).map fun (k : Nat) => (w.vol, w.start + (k : Int))) ++ locs t := rfl
    rw [e, List.length_append, ih]
    simp [secN]
theorem locs_mem {l : List Wr} {v s : Int} : (v, s) ∈ locs l ↔ (eff l v s).isSome = true := by
  rw [eff_isSome, List.any_eq_true]
  unfold locs
  rw [List.mem_flatMap]
  constructor
  · rintro ⟨w, hw, hm⟩
    obtain ⟨k, hk, he⟩ := List.mem_map.1 hm
    injection he with e1 e2
    have := List.mem_range.1 hk
    exact ⟨w, hw, at?_isSome.2 ⟨e1, by omega, by omega⟩⟩
  · rintro ⟨w, hw, hm⟩
    obtain ⟨h1, h2, h3⟩ := at?_isSome.1 hm
    exact ⟨w, hw, List.mem_map.2 ⟨(s - w.start).toNat, List.mem_range.2 (by omega), by rw [h1]; congr 1; omega⟩⟩
theorem locs_nodup : ∀ {l : List Wr}, Canon l → (locs l).Nodup
  | [], _ => .nil
  | w :: t, hc => by
    have e : locs (w :: t) = ((List.range w.data.length).map fun (k : Nat) => (w.vol, w.start + (k : Int))) ++ locs t := rfl
    rw [e, List.nodup_append]
    refine ⟨?_, locs_nodup hc.tail, ?_⟩
    · refine List.Pairwise.map _ ?_ List.nodup_range
      intro a b hab he
      injection he with _ e2
      omega
    · intro a ha b hb hab
      subst hab
      obtain ⟨k, hk, rfl⟩ := List.mem_map.1 ha
      have hk' := List.mem_range.1 hk
      have h1 := locs_mem.1 hb
      rw [eff_none_of_behind hc.head (.inr ⟨rfl, by omega⟩)] at h1
      cases h1
theorem fold_fewer {l : List Wr} (h : AllPlaced l) : secN (foldW l) ≤ secN l := by
  rw [← locs_len, ← locs_len]
  refine nodup_len (locs_nodup (foldW_canon l)) fun p hp => ?_
  obtain ⟨v, s⟩ := p
  rw [locs_mem] at hp ⊢
  rwa [foldW_eff h] at hp
end Go.Proofs.Ytoifinmcoldidaa
