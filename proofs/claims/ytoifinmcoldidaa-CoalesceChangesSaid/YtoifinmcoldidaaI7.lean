import Derived.Test.YtoifinmcoldidaaI6
import Derived.Test.YtoifinmcoldidaaMems
import Derived.Test.YtoifinmcoldidaaC9
import Derived.StillTailTactics
import Derived.Lib.LazyBuf
set_option maxRecDepth 100000
set_option linter.unusedVariables false
set_option linter.unusedSimpArgs false
namespace Go.Proofs.Ytoifinmcoldidaa
open Go.RowKit Go.Mm Sb

/-! ### an image of the call's own -/
abbrev RVal : ERel Value := RPure fun v => [v]
def ImgO (w : World) (base : Nat) (v : Value) (im : List (List Sec)) : Prop :=
  ∃ dvs : List Value, dvs.length = im.length ∧ OwnSl 33 1 RVal w base (fun _ => False) v dvs ∧
    (∀ (j : Nat) (dv : Value) (x : List Sec), dvs[j]? = some dv → im[j]? = some x → OwnSl 53 8 RSec w base (fun _ => False) dv x) ∧ dvs.Pairwise (fun a b => a.ownBlock = none ∨ a.ownBlock ≠ b.ownBlock)
theorem ImgO.below {w w' : World} {base : Nat} {v : Value} {im : List (List Sec)} (h : ImgO w base v im) (hb : Below w.heap.size w w') : ImgO w' base v im := by
  obtain ⟨dvs, h1, h2, h3, h4⟩ := h
  exact ⟨dvs, h1, h2.below hb, fun j dv x hj hx => (h3 j dv x hj hx).below hb, h4⟩
theorem ImgO.alloc {w : World} {base : Nat} {v : Value} {im : List (List Sec)} (h : ImgO w base v im) (o : Obj) : ImgO (w.alloc o) base v im := h.below ((Below.refl _ _).alloc (Nat.le_refl _) o)
theorem ImgO.drew {w : World} {base : Nat} {v : Value} {im : List (List Sec)} (h : ImgO w base v im) : ImgO w.drew base v im := h.below (Below.refl _ _).drew
theorem ImgO.lt {w : World} {base : Nat} {v : Value} {im : List (List Sec)} (h : ImgO w base v im) : ∀ g, v.ownBlock = some g → base ≤ g ∧ g < w.heap.size := by obtain ⟨dvs, h1, h2, h3, h4⟩ := h; exact h2.lt
theorem ImgO.reads {w : World} {base : Nat} {v : Value} {im : List (List Sec)} (h : ImgO w base v im) {T : Nat → Prop} (hT : ∀ b, base ≤ b → T b) : RImg w T v im := by
  obtain ⟨dvs, h1, h2, h3, h4⟩ := h
  obtain ⟨A, cap, hv, hc1, hc2, hx⟩ := h2.reads (T := T) (fun b hb hh => by rcases hh with hh | hh; exact hh.elim; exact hT b (h2.lt b hh.symm).1)
  refine ⟨A, cap, by rw [← h1]; exact hv, by rw [← h1]; exact hc1, hc2, fun h0 => ?_⟩
  obtain ⟨b, off, hA, hlt, hb, hxx⟩ := hx (by omega)
  refine ⟨b, off, hA, hlt, hb, fun j x hj => ?_⟩
  have hjl : j < dvs.length := by rw [h1]; exact (List.getElem?_eq_some_iff.1 hj).1
  obtain ⟨cs, hl, hc, hr⟩ := hxx j _ (List.getElem?_eq_getElem hjl)
  have ho := h3 j _ x (List.getElem?_eq_getElem hjl) hj
  exact ⟨cs, hl, hc, dvs[j], hr, ho.reads (fun b hb hh => by rcases hh with hh | hh; exact hh.elim; exact hT b (ho.lt b hh.symm).1)⟩
theorem ImgO.val {w : World} {base : Nat} {v : Value} {im : List (List Sec)} (h : ImgO w base v im) : ∃ A cap, v = .slice A im.length cap ∧ im.length ≤ cap ∧ cap ≤ maxLen := by
  obtain ⟨dvs, h1, h2, h3, h4⟩ := h
  have := h2.val
  rwa [h1] at this
/-- One volume more; its row is new. -/
theorem ImgO.push {w1 w2 w5 : World} {base B : Nat} {v v5 dv : Value} {im : List (List Sec)} {x : List Sec} {dvs : List Value} (h1 : dvs.length = im.length) (h3 : ∀ (j : Nat) (dv : Value) (x : List Sec), dvs[j]? = some dv → im[j]? = some x → OwnSl 53 8 RSec w2 base (fun _ => False) dv x)
    (h4 : dvs.Pairwise (fun a b => a.ownBlock = none ∨ a.ownBlock ≠ b.ownBlock)) (hB : ∀ (j : Nat) (d : Value), dvs[j]? = some d → ∀ g, d.ownBlock = some g → g < B) (hn : OwnSl 53 8 RSec w2 B (fun _ => False) dv x) (hbB : base ≤ B)
    (hv : OwnSl 33 1 RVal w2 base (fun _ => False) v dvs) (h5 : OwnSl 33 1 RVal w5 base (fun _ => False) v5 (dvs ++ [dv])) (hg : w2.grownBy w5 v.ownBlock) : ImgO w5 base v5 (im ++ [x]) := by
  obtain ⟨cv, hvr⟩ := hv.row
  have hmono : OwnSl 53 8 RSec w2 base (fun _ => False) dv x := by
    obtain ⟨c, o1, o2, o3, o4⟩ := hn
    exact ⟨c, o1.mono hbB, o2, o3, o4⟩
  have key : ∀ (d : Value) (y : List Sec), OwnSl 53 8 RSec w2 base (fun _ => False) d y → OwnSl 53 8 RSec w5 base (fun _ => False) d y := fun d y hd => by
    obtain ⟨cd, hdr⟩ := hd.row
    exact hd.kept hg (own_type_ne hdr hvr (by decide)) (fun _ _ h => h.elim)
  refine ⟨dvs ++ [dv], by simp [h1], h5, fun j d y hj hy => ?_, ?_⟩
  · by_cases hjl : j < im.length
    · rw [List.getElem?_append_left hjl] at hy
      rw [List.getElem?_append_left (by omega)] at hj
      exact key d y (h3 j d y hj hy)
    · rw [List.getElem?_append_right (by omega)] at hy
      rw [List.getElem?_append_right (by omega)] at hj
      have e1 : j - im.length = 0 := by
        have := (List.getElem?_eq_some_iff.1 hy).1; simp at this; omega
      rw [h1, e1] at hj
      rw [e1] at hy
      simp at hj hy
      subst hj; subst hy
      exact key _ _ hmono
  · rw [List.pairwise_append]
    refine ⟨h4, by simp, fun a ha b hb => ?_⟩
    obtain rfl := List.mem_singleton.1 hb
    obtain ⟨j, hj, rfl⟩ := List.getElem_of_mem ha
    cases hq : dvs[j].ownBlock with
    | none => exact .inl rfl
    | some g =>
      refine .inr fun e => ?_
      have l1 := hB j _ (List.getElem?_eq_getElem hj) g hq
      have l2 := (hn.lt g e.symm).1
      omega
theorem ownS0 (w : World) {S : Nat → Prop} : OwnSl 53 8 RSec (w.alloc (.cells #[] 53)) w.heap.size S (.slice (some ⟨w.heap.size, 0, none⟩) 0 0) [] :=
  ⟨[], ⟨rfl, .inr ⟨w.heap.size, 0, #[], rfl, Nat.le_refl _, heap_alloc_new w _, Nat.le_refl _, by decide, by simp, rfl⟩⟩, rfl, by simp, by simp⟩
set_option maxHeartbeats 1000000 in
theorem clone_any (v : Value) (xs : List Sec) (w : World) (S : Nat → Prop) (h : RSecs w S v xs) (hl : xs.length ≤ 100000) :
    Calls Try.prog 86 #[v] w fun e w' => ∃ v', e = .returned v' ∧ OwnSl 53 8 RSec w' w.heap.size (fun _ => False) v' xs ∧ Below w.heap.size w w' := by
  have h' := h
  obtain ⟨A, cap, rfl, hcap, hm, hx⟩ := h
  rcases A with _ | ad
  · have h0 : xs = [] := by
      by_cases h0 : 0 < xs.length
      · obtain ⟨b, off, hA, _⟩ := hx h0; cases hA
      · exact List.eq_nil_of_length_eq_zero (by omega)
    subst h0
    have hq : ∀ W, (binOp .eql 33 (.slice none 0 cap) (.slice none 0 0)).run Try.prog W = .ok (.bool true) W := fun W => Lib.run_eql_slice_nil W 33 53 none 0 cap 0 0 Try.underlying33
    go_enter Try.func86, Try.ntmps86
    go_wp2
    go_ret
    exact ⟨_, rfl, OwnSl.nil _, Below.refl _ _⟩
  · have hA := (Below.refl w.heap.size w).alloc (Nat.le_refl _) (.cells #[] 53)
    have hq : ∀ W, (binOp .eql 33 (.slice (some ad) xs.length cap) (.slice none 0 0)).run Try.prog W = .ok (.bool false) W := fun W => Lib.run_eql_slice_nil W 33 53 (some ad) xs.length cap 0 0 Try.underlying33
    have hr := ((h'.more (T := fun b => b < w.heap.size) (fun b hb _ => hb)).below hA)
    have hr2 : RSecs (w.alloc (.cells #[] 53)) (fun b => b < w.heap.size ∧ some b ≠ (Value.slice (some ⟨w.heap.size, 0, none⟩) 0 0).ownBlock) (.slice (some ad) xs.length cap) xs := hr.more (fun b _ hb => ⟨hb, fun e => by injection e with e; simp only at e; omega⟩)
    go_enter Try.func86, Try.ntmps86
    go_wp2_with (first | (at_builtin; refine wpList_appendMany rfl _ _ 33 rfl 53 _ 8 8 Try.underlying33 infoS rfl (by decide) RSec RSec.one w.heap.size (fun b => b < w.heap.size) _ _ rfl (ownS0 w) _ xs rfl hr2 (by simp; omega) (by decide) (by simp) ?_; intro v5 w5 hO5 hg5 hat5))
    go_ret
    rw [List.nil_append] at hO5
    refine ⟨_, rfl, ?_, hA.grown hg5 (by simp) (fun j e => by injection e with e; simp only at e; omega)⟩
    obtain ⟨c, o1, o2, o3, o4⟩ := hO5
    exact ⟨c, o1, o2, o3, fun j cs x hj hx => o4 j cs x hj hx⟩
end Go.Proofs.Ytoifinmcoldidaa
