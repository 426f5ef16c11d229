import Derived.Test.YtoifinmcoldidaaI7
set_option maxRecDepth 100000
set_option linter.unusedVariables false
set_option linter.unusedSimpArgs false
namespace Go.Proofs.Ytoifinmcoldidaa
open Go.RowKit Go.Mm Sb

/-! ### image: copied, Apply -/
theorem imgO_next {w1 w2 w5 : World} {base : Nat} {v v5 dv : Value} {im : List (List Sec)} {x : List Sec} {dvs : List Value} (hI : dvs.length = im.length) : True := trivial
set_option maxHeartbeats 8000000 in
theorem mappedClone_any (v : Value) (l : List (List Sec)) (w : World) (S : Nat → Prop) (h : RImg w S v l) (hl : l.length ≤ 8) (hz : ∀ x ∈ l, x.length ≤ 4096) :
    Calls Try.prog 85 #[v, .func (.func 86) #[] #[]] w fun e w' => ∃ v', e = .returned v' ∧ ImgO w' w.heap.size v' l ∧ Below w.heap.size w w' := by
  obtain ⟨A, cap, rfl, hcap, hm⟩ := h.val
  unfold maxLen at hm
  obtain ⟨i0, hi, hz0, hz1, hz2⟩ := info_parts infoV
  go_enter Try.func85, Try.ntmps85
  go_wp2_with (first | (refine wpList_make_own _ rfl _ _ 59 rfl w.heap.size 33 i0 _ 1 Try.underlying59 hi hz0 hz1 .i64 .i64 (l.length : Int) l.length rfl rfl rfl (by rw [hz2]; omega) (by unfold maxLen; omega) (Nat.le_refl _) ?_; intro w0 r1 r2))
  have hB0 : Below w.heap.size w w0 := ⟨r2.os, r2.tape, r2.output, r2.size, fun i hi => r2.block i hi (by simp)⟩
  have hO0 : ImgO w0 w.heap.size (.slice (some ⟨w.heap.size, 0, none⟩) 0 l.length) [] := ⟨[], rfl, ⟨[], r1, rfl, by simp, by simp⟩, by simp, .nil⟩
  clear r1 r2
  go_loopw [5, 13] (fun s i wr => ∃ k : Nat, k ≤ l.length ∧ i = .int .i64 k ∧ ImgO wr w.heap.size s (l.take k) ∧ Below w.heap.size w wr) (fun _ i _ => l.length - (intOf i).toNat)
  case atStart => exact ⟨0, Nat.zero_le _, rfl, hO0, hB0⟩
  case round =>
    clear hO0 hB0
    obtain ⟨k, hk, rfl, hown, hb⟩ := hrel
    have hbs := hb.size
    by_cases hlt : k < l.length
    · obtain ⟨x, hx⟩ : ∃ x, l[k]? = some x := ⟨_, List.getElem?_eq_getElem hlt⟩
      obtain ⟨b, off, cs, rfl, hbl, _, hll, hcc, dv0, rfl, hd⟩ := h.at_ hx
      have hzx := hz x (List.mem_of_getElem? hx)
      obtain ⟨Ad, dcap, rfl, hdc, hdm⟩ := hd.val
      have c0 := (hb.cell (p := ⟨b, off + k * 1 + 0, none⟩) hbl).trans (hcc 0 (by omega))
      simp at c0
      clear hcc hll
      have hul := hown.lt
      have hd' := hd.below hb
      have HX := Lib.hid hx
      clear hx
      obtain ⟨dvs, i1, i2, i3, i4⟩ := hown
      have htl : dvs.length = k := by rw [i1, List.length_take, Nat.min_eq_left hk]
      have hlo : ∀ (j : Nat) (d : Value), dvs[j]? = some d → ∀ g, d.ownBlock = some g → g < wr.heap.size := fun j d hj g hg => by
        have hjl := (List.getElem?_eq_some_iff.1 hj).1
        have hjt : j < (l.take k).length := by rw [← i1]; exact hjl
        exact ((i3 j d _ hj (List.getElem?_eq_getElem hjt)).lt g hg).2
      have I3 := Lib.hid i3
      have I4 := Lib.hid i4
      have HLO := Lib.hid hlo
      have I1 := Lib.hid i1
      clear i3 i4 hlo i1
      go_wp2_with (first | (go_at_call 86; refine (clone_any _ x wr S hd' (by omega)).mono ?_; rintro e w1 ⟨v1, rfl, hv1, hb1⟩; obtain ⟨A1, c1, rfl, hc1, hm1⟩ := hv1.val; have hown1 := i2.below hb1; have hbs1 := hb1.size) | (at_builtin; refine wpList_appendNew rfl _ _ 59 rfl 33 _ 1 24 Try.underlying59 infoV rfl (by omega) RVal w.heap.size (fun _ => False) u5 _ rfl hown1 #[.slice A1 x.length c1] (.slice A1 x.length c1) w1.heap.size rfl rfl rfl (by simp [Value.oneCell']) rfl (by rw [htl]; omega) (by omega) (by omega) ?_; intro v5 w5 hO5 hg5 hat5))
      go_roundw
      case rel =>
        refine ⟨k + 1, by omega, by go_num, ?_, (below_then hb hbs hb1).grown hg5 (by omega) (fun j e => (hul j e).1)⟩
        obtain ⟨hkk, hxx⟩ := List.getElem?_eq_some_iff.1 HX.out
        rw [List.take_succ_eq_append_getElem hkk, hxx]
        exact ImgO.push (w1 := w1) I1.out (fun j d y hj hy => (I3.out j d y hj hy).below hb1) I4.out HLO.out hv1 hbs hown1 hO5 hg5
      case measure => simp [intOf]; omega
    · obtain rfl : k = l.length := by omega
      rw [List.take_length] at hown
      go_wp2
      go_ret
      exact ⟨_, rfl, hown, hb⟩
theorem copied_any (v : Value) (l : List (List Sec)) (w : World) (S : Nat → Prop) (h : RImg w S v l) (hl : l.length ≤ 8) (hz : ∀ x ∈ l, x.length ≤ 4096) :
    Calls Try.prog 64 #[v] w fun e w' => ∃ v', e = .returned v' ∧ ImgO w' w.heap.size v' l ∧ Below w.heap.size w w' := by
  go_enter Try.func64, Try.ntmps64
  go_wp2_with (first | (go_at_call 85; refine (mappedClone_any v l _ S h hl hz).mono ?_; rintro e w1 ⟨v1, rfl, hv1, hb1⟩))
  go_ret
  exact ⟨_, rfl, hv1, hb1⟩
/-- A volume of the image turns: its own row. -/
theorem ImgO.at_ {w : World} {base : Nat} {v : Value} {im : List (List Sec)} (h : ImgO w base v im) {j : Nat} {x : List Sec} (hj : im[j]? = some x) :
    ∃ g0 cap0 dv, v = .slice (some ⟨g0, 0, none⟩) im.length cap0 ∧ w.cell? ⟨g0, j, none⟩ = some dv ∧ OwnSl 53 8 RSec w base (fun _ => False) dv x ∧ g0 < w.heap.size ∧
      (∀ (w' : World) (x' : List Sec) (g : Nat), dv.ownBlock = some g → OwnSl 53 8 RSec w' base (fun _ => False) dv x' → w.grownBy w' (some g) → ImgO w' base v (im.set j x')) := by
  obtain ⟨dvs, h1, h2, h3, h4⟩ := h
  have hjl : j < dvs.length := by rw [h1]; exact (List.getElem?_eq_some_iff.1 hj).1
  obtain ⟨g0, cap0, hv, hbg, hgl, _, _, _⟩ := own_ptr h2 (by intro e; rw [e] at hjl; simp at hjl)
  have hjd := List.getElem?_eq_getElem hjl
  subst hv
  obtain ⟨b, off, cs, hA, hbl, _, hl, hc, hr⟩ := (h2.reads (T := fun _ => True) (fun _ _ _ => trivial)).at_ hjd
  injection hA with e; injection e with e1 e2 e3
  subst e1 e2
  obtain rfl : cs = [dvs[j]] := hr
  have hc0 := hc 0 (by omega)
  simp at hc0
  have hown := h3 j _ x hjd hj
  refine ⟨_, cap0, dvs[j], by rw [h1], hc0, hown, hgl, fun w' x' g hg hx' hgr => ?_⟩
  obtain ⟨cd, hdr⟩ := hown.row
  obtain ⟨cv, hvr⟩ := h2.row
  refine ⟨dvs, by simpa using h1, h2.kept hgr (by rw [← hg]; exact own_type_ne hvr hdr (by decide)) (fun _ _ h => h.elim), fun m d y hm hy => ?_, h4⟩
  rw [List.getElem?_set] at hy
  by_cases hjm : j = m
  · subst hjm
    rw [if_pos rfl, if_pos (by omega)] at hy
    injection hy with hy
    subst hy
    rw [hjd] at hm
    injection hm with hm
    subst hm
    exact hx'
  · rw [if_neg hjm] at hy
    have hml := (List.getElem?_eq_some_iff.1 hm).1
    have hne : d.ownBlock = none ∨ d.ownBlock ≠ some g := by
      have hp := List.pairwise_iff_getElem.1 h4
      obtain ⟨_, rfl⟩ := List.getElem?_eq_some_iff.1 hm
      rcases Nat.lt_or_gt_of_ne hjm with hlt | hlt
      · rcases hp j m hjl hml hlt with h | h
        · rw [h] at hg; cases hg
        · rw [hg] at h; exact .inr (Ne.symm h)
      · rcases hp m j hml hjl hlt with h | h
        · exact .inl h
        · rw [hg] at h; exact .inr h
    exact (h3 m d y hm hy).kept hgr hne (fun _ _ h => h.elim)
end Go.Proofs.Ytoifinmcoldidaa
