import Derived.Test.YtccbbecfmfldbaaQ18
import Derived.Test.YtccbbecfmfldbaaQ19
import Derived.Test.YtccbbecfmfldbaaQ14
import Derived.StillTailTactics
import Derived.Lib.LazyBuf
import Derived.Test.YtccbbecfmfldbaaQ16
import Derived.Test.YtccbbecfmfldbaaQ17
import Derived.Test.YtccbbecfmfldbaaQ5
set_option maxRecDepth 100000
set_option linter.unusedVariables false
set_option linter.unusedSimpArgs false
namespace Go.Proofs.Ytccbbecfmfldbaa
open Go.RowKit Go.Mm Sb

/-! ### an image of the call's own -/
abbrev RVal : ERel Value := RPure fun v => [v]
def ImgO (w : World) (base : Nat) (v : Value) (im : List (List Sec)) : Prop :=
  ∃ dvs : List Value, dvs.length = im.length ∧ OwnSl 52 1 RVal w base (fun _ => False) v dvs ∧
    (∀ (j : Nat) (dv : Value) (x : List Sec), dvs[j]? = some dv → im[j]? = some x → OwnSl 99 8 RSec w base (fun _ => False) dv x) ∧ dvs.Pairwise (fun a b => a.ownBlock = none ∨ a.ownBlock ≠ b.ownBlock)
theorem ImgO.below {w w' : World} {base : Nat} {v : Value} {im : List (List Sec)} (h : ImgO w base v im) (hb : Below w.heap.size w w') : ImgO w' base v im := by
  obtain ⟨dvs, h1, h2, h3, h4⟩ := h
  exact ⟨dvs, h1, h2.below hb, fun j dv x hj hx => (h3 j dv x hj hx).below hb, h4⟩
theorem ImgO.alloc {w : World} {base : Nat} {v : Value} {im : List (List Sec)} (h : ImgO w base v im) (o : Obj) : ImgO (w.alloc o) base v im := h.below ((Below.refl _ _).alloc (Nat.le_refl _) o)
theorem ImgO.drew {w : World} {base : Nat} {v : Value} {im : List (List Sec)} (h : ImgO w base v im) : ImgO w.drew base v im := h.below (Below.refl _ _).drew
theorem ImgO.lt {w : World} {base : Nat} {v : Value} {im : List (List Sec)} (h : ImgO w base v im) : ∀ g, v.ownBlock = some g → base ≤ g ∧ g < w.heap.size := by obtain ⟨dvs, h1, h2, h3, h4⟩ := h; exact h2.lt
theorem ImgO.reads {w : World} {base : Nat} {v : Value} {im : List (List Sec)} (h : ImgO w base v im) {T : Nat → Prop} (hT : ∀ b, base ≤ b → T b) : RImg w T v im := by
  obtain ⟨dvs, h1, h2, h3, h4⟩ := h
  obtain ⟨A, cap, hv, hc1, hc2, hx⟩ := h2.reads (T := T) (fun b hb hh => by rcases hh with hh | hh; exact hh.elim; exact hT b (h2.lt b hh.symm).1)
  refine ⟨A, cap, by rw [← h1]; exact hv, by rw [← h1]; exact hc1, hc2, fun h0 => ?_⟩
  obtain ⟨b, off, hA, hlt, hb, hxx⟩ := hx (by omega)
  refine ⟨b, off, hA, hlt, hb, fun j x hj => ?_⟩
  have hjl : j < dvs.length := by rw [h1]; exact (List.getElem?_eq_some_iff.1 hj).1
  obtain ⟨cs, hl, hc, hr⟩ := hxx j _ (List.getElem?_eq_getElem hjl)
  have ho := h3 j _ x (List.getElem?_eq_getElem hjl) hj
  exact ⟨cs, hl, hc, dvs[j], hr, ho.reads (fun b hb hh => by rcases hh with hh | hh; exact hh.elim; exact hT b (ho.lt b hh.symm).1)⟩
theorem ImgO.val {w : World} {base : Nat} {v : Value} {im : List (List Sec)} (h : ImgO w base v im) : ∃ A cap, v = .slice A im.length cap ∧ im.length ≤ cap ∧ cap ≤ maxLen := by
  obtain ⟨dvs, h1, h2, h3, h4⟩ := h
  have := h2.val
  rwa [h1] at this
/-- One volume more; its row is new. -/
theorem ImgO.push {w1 w2 w5 : World} {base B : Nat} {v v5 dv : Value} {im : List (List Sec)} {x : List Sec} {dvs : List Value} (h1 : dvs.length = im.length) (h3 : ∀ (j : Nat) (dv : Value) (x : List Sec), dvs[j]? = some dv → im[j]? = some x → OwnSl 99 8 RSec w2 base (fun _ => False) dv x)
    (h4 : dvs.Pairwise (fun a b => a.ownBlock = none ∨ a.ownBlock ≠ b.ownBlock)) (hB : ∀ (j : Nat) (d : Value), dvs[j]? = some d → ∀ g, d.ownBlock = some g → g < B) (hn : OwnSl 99 8 RSec w2 B (fun _ => False) dv x) (hbB : base ≤ B)
    (hv : OwnSl 52 1 RVal w2 base (fun _ => False) v dvs) (h5 : OwnSl 52 1 RVal w5 base (fun _ => False) v5 (dvs ++ [dv])) (hg : w2.grownBy w5 v.ownBlock) : ImgO w5 base v5 (im ++ [x]) := by
  obtain ⟨cv, hvr⟩ := hv.row
  have hmono : OwnSl 99 8 RSec w2 base (fun _ => False) dv x := by
    obtain ⟨c, o1, o2, o3, o4⟩ := hn
    exact ⟨c, o1.mono hbB, o2, o3, o4⟩
  have key : ∀ (d : Value) (y : List Sec), OwnSl 99 8 RSec w2 base (fun _ => False) d y → OwnSl 99 8 RSec w5 base (fun _ => False) d y := fun d y hd => by
    obtain ⟨cd, hdr⟩ := hd.row
    exact hd.kept hg (own_type_ne hdr hvr (by decide)) (fun _ _ h => h.elim)
  refine ⟨dvs ++ [dv], by simp [h1], h5, fun j d y hj hy => ?_, ?_⟩
  · by_cases hjl : j < im.length
    · rw [List.getElem?_append_left hjl] at hy
      rw [List.getElem?_append_left (by omega)] at hj
      exact key d y (h3 j d y hj hy)
    · rw [List.getElem?_append_right (by omega)] at hy
      rw [List.getElem?_append_right (by omega)] at hj
      have e1 : j - im.length = 0 := by
        have := (List.getElem?_eq_some_iff.1 hy).1; simp at this; omega
      rw [h1, e1] at hj
      rw [e1] at hy
      simp at hj hy
      subst hj; subst hy
      exact key _ _ hmono
  · rw [List.pairwise_append]
    refine ⟨h4, by simp, fun a ha b hb => ?_⟩
    obtain rfl := List.mem_singleton.1 hb
    obtain ⟨j, hj, rfl⟩ := List.getElem_of_mem ha
    cases hq : dvs[j].ownBlock with
    | none => exact .inl rfl
    | some g =>
      refine .inr fun e => ?_
      have l1 := hB j _ (List.getElem?_eq_getElem hj) g hq
      have l2 := (hn.lt g e.symm).1
      omega
theorem ownS0 (w : World) {S : Nat → Prop} : OwnSl 99 8 RSec (w.alloc (.cells #[] 99)) w.heap.size S (.slice (some ⟨w.heap.size, 0, none⟩) 0 0) [] :=
  ⟨[], ⟨rfl, .inr ⟨w.heap.size, 0, #[], rfl, Nat.le_refl _, heap_alloc_new w _, Nat.le_refl _, by decide, by simp, rfl⟩⟩, rfl, by simp, by simp⟩
set_option maxHeartbeats 1000000 in
theorem clone_any (v : Value) (xs : List Sec) (w : World) (S : Nat → Prop) (h : RSecs w S v xs) (hl : xs.length ≤ 100000) :
    Calls Try.prog 88 #[v] w fun e w' => ∃ v', e = .returned v' ∧ OwnSl 99 8 RSec w' w.heap.size (fun _ => False) v' xs ∧ Below w.heap.size w w' := by
  have h' := h
  obtain ⟨A, cap, rfl, hcap, hm, hx⟩ := h
  rcases A with _ | ad
  · have h0 : xs = [] := by
      by_cases h0 : 0 < xs.length
      · obtain ⟨b, off, hA, _⟩ := hx h0; cases hA
      · exact List.eq_nil_of_length_eq_zero (by omega)
    subst h0
    have hq : ∀ W, (binOp .eql 52 (.slice none 0 cap) (.slice none 0 0)).run Try.prog W = .ok (.bool true) W := fun W => Lib.run_eql_slice_nil W 52 99 none 0 cap 0 0 Try.underlying52
    go_enter Try.func88, Try.ntmps88
    go_wp2
    go_ret
    exact ⟨_, rfl, OwnSl.nil _, Below.refl _ _⟩
  · have hA := (Below.refl w.heap.size w).alloc (Nat.le_refl _) (.cells #[] 99)
    have hq : ∀ W, (binOp .eql 52 (.slice (some ad) xs.length cap) (.slice none 0 0)).run Try.prog W = .ok (.bool false) W := fun W => Lib.run_eql_slice_nil W 52 99 (some ad) xs.length cap 0 0 Try.underlying52
    have hr := ((h'.more (T := fun b => b < w.heap.size) (fun b hb _ => hb)).below hA)
    have hr2 : RSecs (w.alloc (.cells #[] 99)) (fun b => b < w.heap.size ∧ some b ≠ (Value.slice (some ⟨w.heap.size, 0, none⟩) 0 0).ownBlock) (.slice (some ad) xs.length cap) xs := hr.more (fun b _ hb => ⟨hb, fun e => by injection e with e; simp only at e; omega⟩)
    go_enter Try.func88, Try.ntmps88
    go_wp2_with (first | (at_builtin; refine wpList_appendMany rfl _ _ 52 rfl 99 _ 8 8 Try.underlying52 infoS rfl (by decide) RSec RSec.one w.heap.size (fun b => b < w.heap.size) _ _ rfl (ownS0 w) _ xs rfl hr2 (by simp; omega) (by decide) (by simp) ?_; intro v5 w5 hO5 hg5 hat5))
    go_ret
    rw [List.nil_append] at hO5
    refine ⟨_, rfl, ?_, hA.grown hg5 (by simp) (fun j e => by injection e with e; simp only at e; omega)⟩
    obtain ⟨c, o1, o2, o3, o4⟩ := hO5
    exact ⟨c, o1, o2, o3, fun j cs x hj hx => o4 j cs x hj hx⟩
end Go.Proofs.Ytccbbecfmfldbaa

set_option maxRecDepth 100000
set_option linter.unusedVariables false
set_option linter.unusedSimpArgs false
namespace Go.Proofs.Ytccbbecfmfldbaa
open Go.RowKit Go.Mm Sb

/-! ### image: copied, Apply -/
theorem imgO_next {w1 w2 w5 : World} {base : Nat} {v v5 dv : Value} {im : List (List Sec)} {x : List Sec} {dvs : List Value} (hI : dvs.length = im.length) : True := trivial
set_option maxHeartbeats 8000000 in
theorem mappedClone_any (v : Value) (l : List (List Sec)) (w : World) (S : Nat → Prop) (h : RImg w S v l) (hl : l.length ≤ 8) (hz : ∀ x ∈ l, x.length ≤ 4096) :
    Calls Try.prog 112 #[v, .func (.func 88) #[] #[]] w fun e w' => ∃ v', e = .returned v' ∧ ImgO w' w.heap.size v' l ∧ Below w.heap.size w w' := by
  obtain ⟨A, cap, rfl, hcap, hm⟩ := h.val
  unfold maxLen at hm
  obtain ⟨i0, hi, hz0, hz1, hz2⟩ := info_parts infoV
  go_enter Try.func112, Try.ntmps112
  go_wp2_with (first | (refine wpList_make_own _ rfl _ _ 22 rfl w.heap.size 52 i0 _ 1 Try.underlying22 hi hz0 hz1 .i64 .i64 (l.length : Int) l.length rfl rfl rfl (by rw [hz2]; omega) (by unfold maxLen; omega) (Nat.le_refl _) ?_; intro w0 r1 r2))
  have hB0 : Below w.heap.size w w0 := ⟨r2.os, r2.tape, r2.output, r2.size, fun i hi => r2.block i hi (by simp)⟩
  have hO0 : ImgO w0 w.heap.size (.slice (some ⟨w.heap.size, 0, none⟩) 0 l.length) [] := ⟨[], rfl, ⟨[], r1, rfl, by simp, by simp⟩, by simp, .nil⟩
  clear r1 r2
  go_loopw [5, 13] (fun s i wr => ∃ k : Nat, k ≤ l.length ∧ i = .int .i64 k ∧ ImgO wr w.heap.size s (l.take k) ∧ Below w.heap.size w wr) (fun _ i _ => l.length - (intOf i).toNat)
  case atStart => exact ⟨0, Nat.zero_le _, rfl, hO0, hB0⟩
  case round =>
    clear hO0 hB0
    obtain ⟨k, hk, rfl, hown, hb⟩ := hrel
    have hbs := hb.size
    by_cases hlt : k < l.length
    · obtain ⟨x, hx⟩ : ∃ x, l[k]? = some x := ⟨_, List.getElem?_eq_getElem hlt⟩
      obtain ⟨b, off, cs, rfl, hbl, _, hll, hcc, dv0, rfl, hd⟩ := h.at_ hx
      have hzx := hz x (List.mem_of_getElem? hx)
      obtain ⟨Ad, dcap, rfl, hdc, hdm⟩ := hd.val
      have c0 := (hb.cell (p := ⟨b, off + k * 1 + 0, none⟩) hbl).trans (hcc 0 (by omega))
      simp at c0
      clear hcc hll
      have hul := hown.lt
      have hd' := hd.below hb
      have HX := Lib.hid hx
      clear hx
      obtain ⟨dvs, i1, i2, i3, i4⟩ := hown
      have htl : dvs.length = k := by rw [i1, List.length_take, Nat.min_eq_left hk]
      have hlo : ∀ (j : Nat) (d : Value), dvs[j]? = some d → ∀ g, d.ownBlock = some g → g < wr.heap.size := fun j d hj g hg => by
        have hjl := (List.getElem?_eq_some_iff.1 hj).1
        have hjt : j < (l.take k).length := by rw [← i1]; exact hjl
        exact ((i3 j d _ hj (List.getElem?_eq_getElem hjt)).lt g hg).2
      have I3 := Lib.hid i3
      have I4 := Lib.hid i4
      have HLO := Lib.hid hlo
      have I1 := Lib.hid i1
      clear i3 i4 hlo i1
      go_wp2_with (first | (go_at_call 88; refine (clone_any _ x wr S hd' (by omega)).mono ?_; rintro e w1 ⟨v1, rfl, hv1, hb1⟩; obtain ⟨A1, c1, rfl, hc1, hm1⟩ := hv1.val; have hown1 := i2.below hb1; have hbs1 := hb1.size) | (at_builtin; refine wpList_appendNew rfl _ _ 22 rfl 52 _ 1 24 Try.underlying22 infoV rfl (by omega) RVal w.heap.size (fun _ => False) u5 _ rfl hown1 #[.slice A1 x.length c1] (.slice A1 x.length c1) w1.heap.size rfl rfl rfl (by simp [Value.oneCell']) rfl (by rw [htl]; omega) (by omega) (by omega) ?_; intro v5 w5 hO5 hg5 hat5))
      go_roundw
      case rel =>
        refine ⟨k + 1, by omega, by go_num, ?_, (below_then hb hbs hb1).grown hg5 (by omega) (fun j e => (hul j e).1)⟩
        obtain ⟨hkk, hxx⟩ := List.getElem?_eq_some_iff.1 HX.out
        rw [List.take_succ_eq_append_getElem hkk, hxx]
        exact ImgO.push (w1 := w1) I1.out (fun j d y hj hy => (I3.out j d y hj hy).below hb1) I4.out HLO.out hv1 hbs hown1 hO5 hg5
      case measure => simp [intOf]; omega
    · obtain rfl : k = l.length := by omega
      rw [List.take_length] at hown
      go_wp2
      go_ret
      exact ⟨_, rfl, hown, hb⟩
theorem copied_any (v : Value) (l : List (List Sec)) (w : World) (S : Nat → Prop) (h : RImg w S v l) (hl : l.length ≤ 8) (hz : ∀ x ∈ l, x.length ≤ 4096) :
    Calls Try.prog 97 #[v] w fun e w' => ∃ v', e = .returned v' ∧ ImgO w' w.heap.size v' l ∧ Below w.heap.size w w' := by
  go_enter Try.func97, Try.ntmps97
  go_wp2_with (first | (go_at_call 112; refine (mappedClone_any v l _ S h hl hz).mono ?_; rintro e w1 ⟨v1, rfl, hv1, hb1⟩))
  go_ret
  exact ⟨_, rfl, hv1, hb1⟩
/-- A volume of the image turns: its own row. -/
theorem ImgO.at_ {w : World} {base : Nat} {v : Value} {im : List (List Sec)} (h : ImgO w base v im) {j : Nat} {x : List Sec} (hj : im[j]? = some x) :
    ∃ g0 cap0 dv, v = .slice (some ⟨g0, 0, none⟩) im.length cap0 ∧ w.cell? ⟨g0, j, none⟩ = some dv ∧ OwnSl 99 8 RSec w base (fun _ => False) dv x ∧ g0 < w.heap.size ∧
      (∀ (w' : World) (x' : List Sec) (g : Nat), dv.ownBlock = some g → OwnSl 99 8 RSec w' base (fun _ => False) dv x' → w.grownBy w' (some g) → ImgO w' base v (im.set j x')) := by
  obtain ⟨dvs, h1, h2, h3, h4⟩ := h
  have hjl : j < dvs.length := by rw [h1]; exact (List.getElem?_eq_some_iff.1 hj).1
  obtain ⟨g0, cap0, hv, hbg, hgl, _, _, _⟩ := own_ptr h2 (by intro e; rw [e] at hjl; simp at hjl)
  have hjd := List.getElem?_eq_getElem hjl
  subst hv
  obtain ⟨b, off, cs, hA, hbl, _, hl, hc, hr⟩ := (h2.reads (T := fun _ => True) (fun _ _ _ => trivial)).at_ hjd
  injection hA with e; injection e with e1 e2 e3
  subst e1 e2
  obtain rfl : cs = [dvs[j]] := hr
  have hc0 := hc 0 (by omega)
  simp at hc0
  have hown := h3 j _ x hjd hj
  refine ⟨_, cap0, dvs[j], by rw [h1], hc0, hown, hgl, fun w' x' g hg hx' hgr => ?_⟩
  obtain ⟨cd, hdr⟩ := hown.row
  obtain ⟨cv, hvr⟩ := h2.row
  refine ⟨dvs, by simpa using h1, h2.kept hgr (by rw [← hg]; exact own_type_ne hvr hdr (by decide)) (fun _ _ h => h.elim), fun m d y hm hy => ?_, h4⟩
  rw [List.getElem?_set] at hy
  by_cases hjm : j = m
  · subst hjm
    rw [if_pos rfl, if_pos (by omega)] at hy
    injection hy with hy
    subst hy
    rw [hjd] at hm
    injection hm with hm
    subst hm
    exact hx'
  · rw [if_neg hjm] at hy
    have hml := (List.getElem?_eq_some_iff.1 hm).1
    have hne : d.ownBlock = none ∨ d.ownBlock ≠ some g := by
      have hp := List.pairwise_iff_getElem.1 h4
      obtain ⟨_, rfl⟩ := List.getElem?_eq_some_iff.1 hm
      rcases Nat.lt_or_gt_of_ne hjm with hlt | hlt
      · rcases hp j m hjl hml hlt with h | h
        · rw [h] at hg; cases hg
        · rw [hg] at h; exact .inr (Ne.symm h)
      · rcases hp m j hml hjl hlt with h | h
        · exact .inl h
        · rw [hg] at h; exact .inr h
    exact (h3 m d y hm hy).kept hgr hne (fun _ _ h => h.elim)
end Go.Proofs.Ytccbbecfmfldbaa

set_option linter.unusedVariables false
set_option linter.unusedSimpArgs false
namespace Go.Proofs.Ytccbbecfmfldbaa
open Go.RowKit Go.Mm Sb

/-! ### what Apply does, in plain words -/
def putW (im : List (List Sec)) (x : Wr) : List (List Sec) := im.set x.vol.toNat (splice (im.getD x.vol.toNat []) x.start.toNat x.data)
def putAll (im : List (List Sec)) (l : List Wr) : List (List Sec) := l.foldl putW im
def fitAll (s : List Int) : List Wr → Int
  | [] => 0
  | x :: t => if fitW s x = 0 then fitAll s t else fitW s x
def apE (im : List (List Sec)) (l : List Wr) : Int := if sizesI (lens im) = 0 then fitAll (lens im) l else sizesI (lens im)
def apR (im : List (List Sec)) (l : List Wr) : List (List Sec) := if apE im l = 0 then putAll im l else []
theorem fitAll_step {s : List Int} {l : List Wr} {k : Nat} {x : Wr} (h : l[k]? = some x) : fitAll s (l.drop k) = if fitW s x = 0 then fitAll s (l.drop (k + 1)) else fitW s x := by
  obtain ⟨hk, rfl⟩ := List.getElem?_eq_some_iff.1 h
  rw [List.drop_eq_getElem_cons hk]; rfl
theorem putAll_take {im : List (List Sec)} {l : List Wr} {k : Nat} {x : Wr} (h : l[k]? = some x) : putAll im (l.take (k + 1)) = putW (putAll im (l.take k)) x := by
  obtain ⟨hk, rfl⟩ := List.getElem?_eq_some_iff.1 h
  unfold putAll
  rw [List.take_succ_eq_append_getElem hk, List.foldl_append]
  rfl
/-- What it says that a write fits. -/
theorem fitW_in {im : List (List Sec)} {x : Wr} (h : fitW (lens im) x = 0) : ∃ (j : Nat) (d : List Sec) (s : Nat), x.vol = j ∧ im[j]? = some d ∧ x.start = s ∧ s + x.data.length ≤ d.length ∧ x.data ≠ [] := by
  unfold fitW fitsI at h
  split at h
  · cases h
  · split at h
    · cases h
    · split at h
      · cases h
      · rename_i h1 h2 h3
        have hll : (lens im).length = im.length := by simp [lens]
        rw [hll] at h1
        obtain ⟨j, hj⟩ := Int.eq_ofNat_of_zero_le (show 0 ≤ x.vol by omega)
        obtain ⟨s, hs⟩ := Int.eq_ofNat_of_zero_le (show 0 ≤ x.start by omega)
        have hjl : j < im.length := by omega
        have e0 : (lens im).getD x.vol.toNat 0 = (im[j].length : Int) := by
          rw [hj]; simp [lens, List.getD_eq_getElem?_getD, hjl]
        rw [e0] at h3
        exact ⟨j, im[j], s, hj, List.getElem?_eq_getElem hjl, hs, by omega, by intro e; simp [e] at h2⟩
theorem putW_eq {im : List (List Sec)} {x : Wr} {j s : Nat} {d : List Sec} (hv : x.vol = j) (hd : im[j]? = some d) (hs : x.start = s) : putW im x = im.set j (splice d s x.data) := by
  unfold putW
  rw [hv, hs]
  simp [List.getD_eq_getElem?_getD, hd]
theorem lens_putW {im : List (List Sec)} {x : Wr} (h : fitW (lens im) x = 0) : lens (putW im x) = lens im := by
  obtain ⟨j, d, s, h1, h2, h3, h4, _⟩ := fitW_in h
  rw [putW_eq h1 h2 h3]
  unfold lens
  rw [List.map_set, length_splice d s x.data h4]
  obtain ⟨hj, rfl⟩ := List.getElem?_eq_some_iff.1 h2
  refine List.ext_getElem (by simp) fun i hi hi' => ?_
  simp only [List.getElem_set, List.getElem_map]
  split
  · rename_i e; subst e; rfl
  · rfl
theorem lens_putAll : ∀ {im : List (List Sec)} {l : List Wr}, (∀ x ∈ l, fitW (lens im) x = 0) → lens (putAll im l) = lens im
  | im, [], _ => rfl
  | im, x :: t, h => by
    have h1 := lens_putW (h x (by simp))
    show lens (putAll (putW im x) t) = _
    rw [lens_putAll (im := putW im x) (l := t) (fun y hy => by rw [h1]; exact h y (by simp [hy])), h1]
end Go.Proofs.Ytccbbecfmfldbaa

set_option maxRecDepth 100000
set_option linter.unusedVariables false
set_option linter.unusedSimpArgs false
namespace Go.Proofs.Ytccbbecfmfldbaa
open Go.RowKit Go.Mm Sb

/-! ### image.Apply -/
theorem wpList_copyS {P : Program} {ops : Array Oper} {rest : List Oper} {o : Oper} {a : Act} {Q : Exit → Act → World → Prop} {w : World} (hgd : o.guard = none) (d s : Operand) (dT sT : TypeId)
    (ho : o.op = .call { callee := .builtin .copy, args := #[d, s], argTypes := #[dT, sT] }) {vd vs r : Value} {w' : World} (hd : a.eval d = vd) (hs : a.eval s = vs)
    (hr : (Builtin.copy_ #[dT, sT] o.type #[vd, vs]).run P w = .ok r w') (h : wpList P ops Q rest (a.put o.dst r) w') : wpList P ops Q (o :: rest) a w := by
  refine wpList_plain hgd fun K hK => ?_
  unfold Oper.wp execOp
  simp only [ho, resolve, invoke, builtin, Sem.run_bind, Sem.run_pure, Result.andThen_ok, List.map_toArray, List.map_cons, List.map_nil, hd, hs, hr]
  exact hK _ _ h
theorem infoS8 : (Try.prog.info? 99).map (·.size) = some 8 := by kernel_rfl
def ApRet (im : List (List Sec)) (l : List Wr) (w : World) (e : Ending) (w' : World) : Prop :=
  ∃ v i, e = .returned (.tuple #[v, .int .i64 i, .int .i64 (apE im l)]) ∧ RImg w' (fun b => w.heap.size ≤ b) v (apR im l) ∧ Below w.heap.size w w'
theorem sizes_small {im : List (List Sec)} (h : sizesI (lens im) = 0) : im.length ≤ 8 ∧ ∀ x ∈ im, x.length ≤ 4096 := by
  have h1 := sizesI_len h
  have h2 := sizesI_ok h
  refine ⟨by simpa [lens] using h1.2, fun x hx => ?_⟩
  have := h2 (x.length : Int) (List.mem_map.2 ⟨x, hx, rfl⟩)
  omega
set_option maxHeartbeats 8000000 in
theorem apply_any (vi v : Value) (im : List (List Sec)) (l : List Wr) (w : World) (S S2 : Nat → Prop) (hi : RImg w S2 vi im) (h : RWrs w S v l) (hl : im.length ≤ 100000) :
    Calls Try.prog 67 #[vi, v] w (ApRet im l w) := by
  obtain ⟨A, cap, rfl, hcap, hm⟩ := h.val
  unfold maxLen at hm
  by_cases hz : sizesI (lens im) = 0
  · obtain ⟨z1, z2⟩ := sizes_small hz
    have hae : apE im l = fitAll (lens im) l := by unfold apE; rw [if_pos hz]
    go_enter Try.func67, Try.ntmps67
    go_wp2_with fail
    refine (imgCheck_any vi im w S2 hi hl).mono ?_
    rintro e w1 ⟨rfl, B1⟩
    rw [hz]
    have G1 : Below w.heap.size w w1 := B1
    go_wp2_with fail
    refine (copied_any vi im w1 S2 (hi.below G1) z1 z2).mono ?_
    rintro e w2 ⟨v8, rfl, hv8, B2⟩
    have G2 := below_then G1 G1.size B2
    have gs1 := G1.size
    obtain ⟨A8, c8, rfl, hc8, hm8⟩ := hv8.val
    have HAE := Lib.hid hae
    have HZ := Lib.hid hz
    clear hae hz
    go_wp2
    go_loopw [21] (fun i wr => ∃ k : Nat, k ≤ l.length ∧ i = .int .i64 k ∧ ImgO wr w1.heap.size (.slice A8 im.length c8) (putAll im (l.take k)) ∧ fitAll (lens im) l = fitAll (lens im) (l.drop k) ∧ (∀ x ∈ l.take k, fitW (lens im) x = 0) ∧ Below w.heap.size w wr) (fun i _ => l.length - (intOf i).toNat)
    case atStart => exact ⟨0, Nat.zero_le _, rfl, hv8, rfl, by simp, G2⟩
    case round =>
      clear hv8 B2 G2
      obtain ⟨k, hk, rfl, hown, hI, hpr, hb⟩ := hrel
      have hbs := hb.size
      by_cases hlt : k < l.length
      · obtain ⟨x, hx⟩ : ∃ x, l[k]? = some x := ⟨_, List.getElem?_eq_getElem hlt⟩
        obtain ⟨b, off, cs, rfl, hbl, _, hll, hc, hr⟩ := h.at_ hx
        obtain ⟨hv64, hs64, dv, rfl, hd⟩ := hr
        obtain ⟨Ad, dcap, rfl, hdc, hdm⟩ := hd.val
        unfold maxLen at hdm
        have c0 := (hb.cell (p := ⟨b, off + k * 3 + 0, none⟩) hbl).trans (hc 0 (by omega))
        have c1 := (hb.cell (p := ⟨b, off + k * 3 + 1, none⟩) hbl).trans (hc 1 (by omega))
        have c2 := (hb.cell (p := ⟨b, off + k * 3 + 2, none⟩) hbl).trans (hc 2 (by omega))
        clear hc hll
        simp at c0 c1 c2
        have hbox := Blk.new wr 54 #[.int .i64 x.vol, .int .i64 x.start, .slice Ad x.data.length dcap]
        have hA := (Below.refl wr.heap.size wr).alloc (Nat.le_refl _) (.cells #[.int .i64 x.vol, .int .i64 x.start, .slice Ad x.data.length dcap] 54)
        have hlp := lens_putAll hpr
        have hown2 := hown.alloc (.cells #[.int .i64 x.vol, .int .i64 x.start, .slice Ad x.data.length dcap] 54)
        have hrd := hown2.reads (T := fun _ => True) (fun _ _ => trivial)
        have hfit := fun W (hW : RImg W (fun _ => True) (.slice A8 im.length c8) (putAll im (l.take k))) => imgFits_any (.slice A8 im.length c8) (putAll im (l.take k)) x.vol x.start Ad x.data.length dcap W _ hW (by omega) hs64
        rw [hlp] at hfit
        have HI := Lib.hid hI
        have HPR := Lib.hid hpr
        have HX := Lib.hid hx
        have HLP := Lib.hid hlp
        clear hI hpr hx hlp
        by_cases hf : fitW (lens im) x = 0
        · have hf' : fitsI (lens im) x.vol x.start x.data.length = 0 := hf
          rw [hf'] at hfit
          have hf2 : fitW (lens (putAll im (l.take k))) x = 0 := by rw [HLP.out]; exact hf
          obtain ⟨j, d, s0, j1, j2, j3, j4, j5⟩ := fitW_in hf2
          obtain ⟨xv, xs, xd⟩ := x
          simp only at *
          subst j1 j3
          have hxl : 0 < xd.length := List.length_pos_iff.2 j5
          obtain ⟨ad, rfl⟩ : ∃ ad, Ad = some ad := by
            obtain ⟨A', c', hv', _, _, hx'⟩ := hd
            injection hv' with e1 e2 e3
            obtain ⟨b', o', hA', _⟩ := hx' hxl
            exact ⟨_, e1.trans hA'⟩
          have hpl : (putAll im (l.take k)).length = im.length := by
            have := congrArg List.length HLP.out
            simpa [lens] using this
          obtain ⟨g0, cap0, dvj, hve, hcd, hod, hg0, hput⟩ := hown2.at_ j2
          have hj8 : j < im.length := by rw [← hpl]; exact (List.getElem?_eq_some_iff.1 j2).1
          injection hve with e1 e2 e3
          subst e1
          subst e3
          clear e2
          obtain ⟨g, capd, rfl, hbg, hgl, hnl, hml, _⟩ := own_ptr hod (by intro e; rw [e] at j4; simp only [List.length_nil] at j4; omega)
          unfold maxLen at hml
          have hds : s0 ≤ d.length := by omega
          have hydx := hd.below hb
          have hcs : ¬ capd = s0 := by omega
          have HPUT := Lib.hid hput
          have HJ2 := Lib.hid j2
          clear hput hpl j2 hc8
          go_wp2_with (first | (go_at_call 98; refine (hfit _ hrd).mono ?_; rintro e w3 ⟨rfl, hb3⟩; obtain ⟨q0, q1, q2, q3, q4, q5⟩ := (hbox.below hb3).three; have q6 := (hb3.cell (p := ⟨g0, j, none⟩) hg0).trans hcd))
          have hod3 := (hod.below hb3).drew
          have hyd3 := ((hydx.below hA).below hb3).below (Below.refl w3.heap.size w3).drew
          have HB := below_then (hb.alloc hbs _) (by simp; omega) hb3
          obtain ⟨w4, r4, o4, g4⟩ := OwnSl.copied (P := Try.prog) (enc := secCells) (k := 8) (by intro y; rfl) (by omega) (fun y u hu => RSec.one (w := w3) (T := fun _ => True) (x := y) rfl u hu) hod3 (off := s0) (dLen := d.length - s0) (dCap := capd - s0) hyd3 j4 (by omega) 52 52 3 Try.underlying52 infoS8
          go_still_tail 10, (by kernel_rfl)
          change wpList _ _ _ _ _ w3.drew
          go_wp2_with (first | (at_builtin; refine wpList_copyS rfl _ _ 52 52 rfl rfl rfl r4 ?_))
          go_roundw
          case rel =>
            have gd := HB.drew
            refine ⟨k + 1, by omega, by go_num, ?_, ?_, ?_, ?_⟩
            · rw [putAll_take HX.out, putW_eq rfl HJ2.out rfl]
              exact HPUT.out w4 _ g rfl o4 ((grown_below hb3.drew (some g)).andThen g4 (fun j e => .inr e))
            · rw [HI.out, fitAll_step HX.out, if_pos hf]
            · intro y hy
              obtain ⟨hkk, hxx⟩ := List.getElem?_eq_some_iff.1 HX.out
              rw [List.take_succ_eq_append_getElem hkk] at hy
              rcases List.mem_append.1 hy with hy | hy
              · exact HPR.out y hy
              · obtain rfl := List.mem_singleton.1 hy; rw [hxx]; exact hf
            · exact gd.grown g4 gd.size (fun i e => by injection e with e; omega)
          case measure => simp [intOf]; omega
        · have hf' : (fitsI (lens im) x.vol x.start x.data.length != 0) = true := by simpa using (show ¬ fitsI (lens im) x.vol x.start x.data.length = 0 from hf)
          go_wp2_with (first | (go_at_call 98; refine (hfit _ hrd).mono ?_; rintro e w3 ⟨rfl, hb3⟩))
          have hfe : apE im l = fitsI (lens im) x.vol x.start x.data.length := by rw [HAE.out, HI.out, fitAll_step HX.out, if_neg hf]; rfl
          refine bodyPost_ret (v := .tuple #[.slice none 0 0, .int .i64 k, .int .i64 (apE im l)]) (by simp [results, Try.results67, go_sem, hfe]) rfl ⟨_, _, rfl, ?_, below_then (hb.alloc hbs _) (by simp; omega) hb3⟩
          unfold apR
          rw [if_neg (by rw [hfe]; exact hf)]
          exact RSl.nil _ _
      · obtain rfl : k = l.length := by omega
        have hfe : apE im l = 0 := by rw [HAE.out, hI, List.drop_length]; rfl
        have HFE := Lib.hid hfe
        clear hfe hI
        rw [List.take_length] at hown
        go_wp2
        refine bodyPost_ret (v := .tuple #[.slice A8 im.length c8, .int .i64 0, .int .i64 (apE im l)]) (by simp [results, Try.results67, go_sem, HFE.out]) rfl ⟨_, _, rfl, ?_, hb⟩
        unfold apR
        rw [if_pos HFE.out]
        exact hown.reads (fun b hb => by omega)
  · have hae : apE im l = sizesI (lens im) := by unfold apE; rw [if_neg hz]
    have hz' : (sizesI (lens im) != 0) = true := by simpa using hz
    go_enter Try.func67, Try.ntmps67
    go_wp2_with fail
    refine (imgCheck_any vi im w S2 hi hl).mono ?_
    rintro e w1 ⟨rfl, B1⟩
    go_wp2
    refine bodyPost_ret (v := .tuple #[.slice none 0 0, .int .i64 0, .int .i64 (apE im l)]) (by simp [results, Try.results67, go_sem, hae]) rfl ⟨_, _, rfl, ?_, B1⟩
    unfold apR
    rw [if_neg (by rw [hae]; exact hz)]
    exact RSl.nil _ _
end Go.Proofs.Ytccbbecfmfldbaa

set_option maxRecDepth 100000
set_option linter.unusedVariables false
set_option linter.unusedSimpArgs false
namespace Go.Proofs.Ytccbbecfmfldbaa
open Go.RowKit Go.Mm Sb

/-! ### snapshots: reading; in, sizes, writes -/
def RSnap : ERel Snap := fun w S cs x => In64 x.num ∧ In64 x.time ∧ ∃ dv, cs = [.int .i64 x.num, .int .i64 x.time, dv] ∧ RWrs w S dv x.saved
instance : Steady RSnap := ⟨fun ⟨a, b, dv, e, h⟩ hw => ⟨a, b, dv, e, h.keep hw⟩, fun ⟨a, b, dv, e, h⟩ hw => ⟨a, b, dv, e, h.more hw⟩⟩
abbrev RSnaps := RSl 3 RSnap
theorem RSnap.one {w : World} {T : Nat → Prop} {cs : List Value} {x : Snap} (h : RSnap w T cs x) : ∀ u ∈ cs, u.oneCell' = true := by
  obtain ⟨_, _, dv, rfl, A, cap, rfl, _⟩ := h
  intro u hu
  simp at hu
  rcases hu with rfl | rfl | rfl <;> rfl
theorem infoSn : (Try.prog.info? 88).map (fun i => (i.zero, i.size, i.bytes)) = some (some (.agg #[.int .i64 0, .int .i64 0, .slice none 0 0]), 3, 40) := by kernel_rfl
def inT (n : Int) : Bool := decide (0 ≤ n ∧ n ≤ 1073741824)
theorem inT_iff {n : Int} : inT n = true ↔ 0 ≤ n ∧ n ≤ 1073741824 := by simp [inT]
theorem in_any (n : Int) (w : World) (h : In64 n) : Calls Try.prog 58 #[.int .i64 n] w fun e w' => e = .returned (.bool (inT n)) ∧ w = w' := by
  by_cases h1 : 0 ≤ n
  · by_cases h2 : n ≤ 1073741824
    · have t1 := decide_eq_true h1
      have t2 := decide_eq_true h2
      go_enter Try.func58, Try.ntmps58
      go_wp2
      go_ret
      exact ⟨ret_bool (by simp [inT, h1, h2]), rfl⟩
    · have t1 := decide_eq_true h1
      have t2 := decide_eq_false h2
      go_enter Try.func58, Try.ntmps58
      go_wp2
      go_ret
      exact ⟨ret_bool (by simp [inT, h1, h2]), rfl⟩
  · have t1 := decide_eq_false h1
    go_enter Try.func58, Try.ntmps58
    go_wp2
    go_ret
    exact ⟨ret_bool (by simp [inT]; omega), rfl⟩
set_option maxHeartbeats 2000000 in
theorem snSizes_any (v : Value) (l : List (List Sec)) (w : World) (S : Nat → Prop) (h : RImg w S v l) (hl : l.length ≤ 100000) :
    Calls Try.prog 60 #[v] w fun e w' => ∃ v', e = .returned v' ∧ RInts w' (fun b => w.heap.size ≤ b) v' (lens l) ∧ Below w.heap.size w w' := by
  obtain ⟨A, cap, rfl, hcap, hm⟩ := h.val
  unfold maxLen at hm
  go_enter Try.func60, Try.ntmps60
  go_wp2
  go_loopw [3, 8] (fun s i wr => ∃ k : Nat, k ≤ l.length ∧ i = .int .i64 k ∧ OwnSl 3 1 RInt wr w.heap.size (fun _ => False) s ((l.take k).map fun x => (x.length : Int)) ∧ Below w.heap.size w wr) (fun _ i _ => l.length - (intOf i).toNat)
  case atStart => exact ⟨0, Nat.zero_le _, rfl, OwnSl.nil _, Below.refl _ _⟩
  case round =>
    obtain ⟨k, hk, rfl, hown, hb⟩ := hrel
    have hbs := hb.size
    by_cases hlt : k < l.length
    · obtain ⟨x, hx⟩ : ∃ x, l[k]? = some x := ⟨_, List.getElem?_eq_getElem hlt⟩
      obtain ⟨b, off, cs, rfl, hbl, _, hll, hcc, dv, rfl, hd⟩ := h.at_ hx
      obtain ⟨Ad, dcap, rfl, hdc, hdm⟩ := hd.val
      unfold maxLen at hdm
      have c0 := (hb.cell (p := ⟨b, off + k * 1 + 0, none⟩) hbl).trans (hcc 0 (by omega))
      simp at c0
      clear hcc hll
      have hul := hown.lt
      have htl := take_len (fun x : List Sec => (x.length : Int)) hk
      have HX := Lib.hid hx
      clear hx
      go_wp2_with (first | (at_builtin; refine wpList_appendNew rfl _ _ 63 rfl 3 _ 1 8 Try.underlying63 infoI rfl (by omega) RInt w.heap.size (fun _ => False) u3 _ rfl hown #[.int .i64 x.length] (x.length : Int) wr.heap.size rfl rfl rfl (by simp [Value.oneCell']) ⟨by unfold In64; omega, rfl⟩ (by rw [htl]; omega) (by omega) (by omega) ?_; intro v5 w5 hO5 hg5 hat5))
      go_roundw
      case rel => exact ⟨k + 1, by omega, by go_num, by rw [map_take (fun x : List Sec => (x.length : Int)) HX.out]; exact hO5, hb.grown hg5 hbs (fun j e => (hul j e).1)⟩
      case measure => simp [intOf]; omega
    · obtain rfl : k = l.length := by omega
      rw [List.take_length] at hown
      go_wp2
      go_ret
      exact ⟨_, rfl, hown.reads (fun b hb hh => by rcases hh with hh | hh; exact hh.elim; exact (hown.lt b hh.symm).1), hb⟩
set_option maxHeartbeats 4000000 in
theorem writes_any (v : Value) (l : List Wr) (w : World) (S : Nat → Prop) (h : RWrs w S v l) (hl : l.length ≤ 100000) (hz : ∀ x ∈ l, x.data.length ≤ 100000) :
    Calls Try.prog 89 #[v] w fun e w' => ∃ v', e = .returned v' ∧ RWrs w' (fun b => w.heap.size ≤ b) v' l ∧ Below w.heap.size w w' := by
  obtain ⟨A, cap, rfl, hcap, hm⟩ := h.val
  unfold maxLen at hm
  go_enter Try.func89, Try.ntmps89
  go_wp2
  go_loopw [3, 8] (fun s i wr => ∃ k : Nat, k ≤ l.length ∧ i = .int .i64 k ∧ OwnSl 54 3 RWr wr w.heap.size (fun b => w.heap.size ≤ b) s (l.take k) ∧ Below w.heap.size w wr) (fun _ i _ => l.length - (intOf i).toNat)
  case atStart => exact ⟨0, Nat.zero_le _, rfl, OwnSl.nil _, Below.refl _ _⟩
  case round =>
    obtain ⟨k, hk, rfl, hown, hb⟩ := hrel
    have hbs := hb.size
    by_cases hlt : k < l.length
    · obtain ⟨x, hx⟩ : ∃ x, l[k]? = some x := ⟨_, List.getElem?_eq_getElem hlt⟩
      obtain ⟨b, off, cs, rfl, hbl, _, hll, hcc, hv64, hs64, dv, rfl, hd⟩ := h.at_ hx
      have hzx := hz x (List.mem_of_getElem? hx)
      obtain ⟨Ad, dcap, rfl, hdc, hdm⟩ := hd.val
      unfold maxLen at hdm
      have c0 := (hb.cell (p := ⟨b, off + k * 3 + 0, none⟩) hbl).trans (hcc 0 (by omega))
      have c1 := (hb.cell (p := ⟨b, off + k * 3 + 1, none⟩) hbl).trans (hcc 1 (by omega))
      have c2 := (hb.cell (p := ⟨b, off + k * 3 + 2, none⟩) hbl).trans (hcc 2 (by omega))
      simp at c0 c1 c2
      clear hcc hll
      have hul := hown.lt
      have htl : (l.take k).length = k := by rw [List.length_take, Nat.min_eq_left hk]
      have hblk : Blk (wr.alloc (.cells #[.int .i64 x.vol, .int .i64 x.start, .slice Ad x.data.length dcap] 54)) wr.heap.size 54 #[.int .i64 x.vol, .int .i64 x.start, .slice Ad x.data.length dcap] := Blk.new _ _ _
      have BA : Below wr.heap.size wr (wr.alloc (.cells #[.int .i64 x.vol, .int .i64 x.start, .slice Ad x.data.length dcap] 54)) := (Below.refl _ _).alloc (Nat.le_refl _) _
      have hcl := clone_any (.slice Ad x.data.length dcap) x.data _ S ((hd.below hb).below BA) (by omega)
      have HX := Lib.hid hx
      clear hx
      go_wp2_with fail
      refine hcl.mono ?_
      rintro e w1 ⟨v1, rfl, hv1, hb1⟩
      clear hcl
      have hblk1 := hblk.below hb1
      obtain ⟨q0, q1, q2, q3, q4, q5⟩ := hblk1.three
      have BW : Below wr.heap.size wr (w1.setCell ⟨wr.heap.size, 2, none⟩ v1) := (below_then BA BA.size hb1).setCell (by simp) v1
      have hownW := hown.below BW
      have hls : ∀ g, v1.ownBlock = some g → wr.heap.size + 1 ≤ g := fun g hg => by have := (hv1.lt g hg).1; simpa using this
      have hRd : RSecs (w1.setCell ⟨wr.heap.size, 2, none⟩ v1) (fun b => w.heap.size ≤ b ∧ some b ≠ u3.ownBlock) v1 x.data := by
        have r1 : RSecs w1 (fun b => wr.heap.size + 1 ≤ b) v1 x.data := hv1.reads (fun b _ hh => by rcases hh with hh | hh; exact hh.elim; exact hls b hh.symm)
        refine (r1.keep (w' := w1.setCell ⟨wr.heap.size, 2, none⟩ v1) fun b _ hb => Below.heap_setCell _ _ _ _ (by simp; omega)).more fun b _ hb => ⟨by omega, fun e => ?_⟩
        have := (hul b e.symm).2
        omega
      obtain ⟨A1, cap1, rfl, hc1, hm1⟩ := hv1.val
      have hW1 : wr.heap.size < w1.heap.size := hblk1.lt
      go_wp2_with (first | (at_builtin; refine wpList_appendNew rfl _ _ 86 rfl 54 _ 3 40 Try.underlying86 infoW rfl (by omega) RWr w.heap.size (fun b => w.heap.size ≤ b) u3 (l.take k) rfl hownW #[.int .i64 x.vol, .int .i64 x.start, .slice A1 x.data.length cap1] x w1.heap.size (by simp) rfl rfl (by simp [Value.oneCell']) ⟨hv64, hs64, _, rfl, hRd⟩ (by rw [htl]; omega) (by omega) (by simp; omega) ?_; intro v5 w5 hO5 hg5 hat5))
      go_roundw
      case rel =>
        obtain ⟨hkk, hxx⟩ := List.getElem?_eq_some_iff.1 HX.out
        refine ⟨k + 1, by omega, by go_num, ?_, (below_then hb hbs BW).grown hg5 (by simp; omega) (fun j e => (hul j e).1)⟩
        rw [List.take_succ_eq_append_getElem hkk, hxx]
        exact hO5
      case measure => simp [intOf]; omega
    · obtain rfl : k = l.length := by omega
      rw [List.take_length] at hown
      go_wp2
      go_ret
      exact ⟨_, rfl, hown.reads (fun b _ hh => by rcases hh with hh | hh; exact hh; exact (hown.lt b hh.symm).1), hb⟩
end Go.Proofs.Ytccbbecfmfldbaa

set_option maxRecDepth 100000
set_option linter.unusedVariables false
set_option linter.unusedSimpArgs false
namespace Go.Proofs.Ytccbbecfmfldbaa
open Go.RowKit Go.Mm Sb

theorem wr_ext {x y : Wr} (h1 : x.vol = y.vol) (h2 : x.start = y.start) (h3 : x.data = y.data) : x = y := by cases x; cases y; simp_all
set_option maxHeartbeats 4000000 in
theorem sameWrites_any (va vb : Value) (a b : List Wr) (w : World) (S : Nat → Prop) (ha : RWrs w S va a) (hb : RWrs w S vb b) :
    Calls Try.prog 84 #[va, vb] w fun e w' => e = .returned (.bool (decide (a = b))) ∧ Below w.heap.size w w' := by
  obtain ⟨Aa, ca, rfl, ha1, ha2⟩ := ha.val
  obtain ⟨Ab, cb, rfl, hb1, hb2⟩ := hb.val
  unfold maxLen at ha2 hb2
  by_cases hl : a.length = b.length
  · go_enter Try.func84, Try.ntmps84
    go_wp2
    go_loopw [5] (fun i wr => ∃ k : Nat, k ≤ a.length ∧ i = .int .i64 k ∧ a.take k = b.take k ∧ Below w.heap.size w wr) (fun i _ => a.length - (intOf i).toNat)
    case atStart => exact ⟨0, Nat.zero_le _, rfl, rfl, Below.refl _ _⟩
    case round =>
      obtain ⟨k, hk, rfl, hn, hbw⟩ := hrel
      by_cases hlt : k < a.length
      · obtain ⟨x, hx⟩ : ∃ x, a[k]? = some x := ⟨_, List.getElem?_eq_getElem hlt⟩
        obtain ⟨y, hy⟩ : ∃ y, b[k]? = some y := ⟨_, List.getElem?_eq_getElem (by omega)⟩
        obtain ⟨b1, off1, cs1, rfl, hbl1, _, hl1, hc1, _, _, dv1, rfl, hd1⟩ := ha.at_ hx
        obtain ⟨b2, off2, cs2, rfl, hbl2, _, hl2, hc2, _, _, dv2, rfl, hd2⟩ := hb.at_ hy
        obtain ⟨Ad1, cd1, rfl, hd11, hd12⟩ := hd1.val
        obtain ⟨Ad2, cd2, rfl, hd21, hd22⟩ := hd2.val
        have hD : ∀ W, Below w.heap.size w W → (Below w.heap.size w W ∧ W.cell? ⟨b1, off1 + k * 3, none⟩ = some (.int .i64 x.vol) ∧ W.cell? ⟨b1, off1 + k * 3 + 1, none⟩ = some (.int .i64 x.start) ∧ W.cell? ⟨b1, off1 + k * 3 + 2, none⟩ = some (.slice Ad1 x.data.length cd1) ∧
            W.cell? ⟨b2, off2 + k * 3, none⟩ = some (.int .i64 y.vol) ∧ W.cell? ⟨b2, off2 + k * 3 + 1, none⟩ = some (.int .i64 y.start) ∧ W.cell? ⟨b2, off2 + k * 3 + 2, none⟩ = some (.slice Ad2 y.data.length cd2)) := fun W hW =>
          ⟨hW, (hW.cell hbl1).trans (hc1 0 (by omega)), (hW.cell hbl1).trans (hc1 1 (by omega)), (hW.cell hbl1).trans (hc1 2 (by omega)), (hW.cell hbl2).trans (hc2 0 (by omega)), (hW.cell hbl2).trans (hc2 1 (by omega)), (hW.cell hbl2).trans (hc2 2 (by omega))⟩
        have hdr : Below w.heap.size w wr.drew := hbw.drew
        have hsz : ∀ W, Below w.heap.size w W → w.heap.size ≤ W.heap.size := fun W h => h.size
        clear hc1 hc2 hl1 hl2
        have hltb : k < b.length := by omega
        clear hl
        by_cases hv : x.vol = y.vol
        · by_cases hs : x.start = y.start
          · have t1 : (x.vol != y.vol) = false := by simpa using hv
            have t2 : (x.start != y.start) = false := by simpa using hs
            have HV := Lib.hid hv
            have HSS := Lib.hid hs
            by_cases hd : x.data = y.data
            · have hq := decide_eq_true hd
              have HDD := Lib.hid hd
              clear hd
              go_wp2_with fail
              go_region_held3 (fun W => Below w.heap.size w W ∧ W.cell? ⟨b1, off1 + k * 3, none⟩ = some (.int .i64 x.vol) ∧ W.cell? ⟨b1, off1 + k * 3 + 1, none⟩ = some (.int .i64 x.start) ∧ W.cell? ⟨b1, off1 + k * 3 + 2, none⟩ = some (.slice Ad1 x.data.length cd1) ∧ W.cell? ⟨b2, off2 + k * 3, none⟩ = some (.int .i64 y.vol) ∧ W.cell? ⟨b2, off2 + k * 3 + 1, none⟩ = some (.int .i64 y.start) ∧ W.cell? ⟨b2, off2 + k * 3 + 2, none⟩ = some (.slice Ad2 y.data.length cd2))
                (first | (exact hD _ hS1) | (exact hD _ hdr) | assumption | go_keep)
                (first | (go_at_call 108; refine (sameSectors_any _ _ x.data y.data _ S (hd1.below hdr) (hd2.below hdr)).mono ?_; rintro e w1 ⟨rfl, hb1⟩; rw [hq]; have hS1 : Below w.heap.size w w1 := below_then hdr (hsz _ hdr) hb1))
              go_wp2
              go_roundw
              case rel => exact ⟨k + 1, by omega, by go_num, same_next hn hx hy (wr_ext HV.out HSS.out HDD.out), by assumption⟩
              case measure => simp [intOf]; omega
            · have hq := decide_eq_false hd
              go_wp2_with fail
              go_region_held3 (fun W => Below w.heap.size w W ∧ W.cell? ⟨b1, off1 + k * 3, none⟩ = some (.int .i64 x.vol) ∧ W.cell? ⟨b1, off1 + k * 3 + 1, none⟩ = some (.int .i64 x.start) ∧ W.cell? ⟨b1, off1 + k * 3 + 2, none⟩ = some (.slice Ad1 x.data.length cd1) ∧ W.cell? ⟨b2, off2 + k * 3, none⟩ = some (.int .i64 y.vol) ∧ W.cell? ⟨b2, off2 + k * 3 + 1, none⟩ = some (.int .i64 y.start) ∧ W.cell? ⟨b2, off2 + k * 3 + 2, none⟩ = some (.slice Ad2 y.data.length cd2))
                (first | (exact hD _ hS1) | (exact hD _ hdr) | assumption | go_keep)
                (first | (go_at_call 108; refine (sameSectors_any _ _ x.data y.data _ S (hd1.below hdr) (hd2.below hdr)).mono ?_; rintro e w1 ⟨rfl, hb1⟩; rw [hq]; have hS1 : Below w.heap.size w w1 := below_then hdr (hsz _ hdr) hb1))
              go_wp2
              go_ret
              exact ⟨ret_bool (decide_eq_false (same_not hx hy (fun e => hd (by rw [e])))).symm, by assumption⟩
          · have t1 : (x.vol != y.vol) = false := by simpa using hv
            have t2 : (x.start != y.start) = true := by simpa using hs
            go_wp2
            go_quiet (fail)
            go_wp2
            go_ret
            exact ⟨ret_bool (decide_eq_false (same_not hx hy (fun e => hs (by rw [e])))).symm, pw_below_drewN hbw _⟩
        · have t1 : (x.vol != y.vol) = true := by simpa using hv
          go_wp2
          go_quiet (fail)
          go_wp2
          go_ret
          exact ⟨ret_bool (decide_eq_false (same_not hx hy (fun e => hv (by rw [e])))).symm, pw_below_drewN hbw _⟩
      · go_wp2
        go_ret
        obtain rfl : k = a.length := by omega
        rw [List.take_length, hl, List.take_length] at hn
        exact ⟨ret_bool (decide_eq_true hn).symm, hbw⟩
  · have t1 : ((a.length : Int) == (b.length : Int)) = false := by simp; omega
    go_enter Try.func84, Try.ntmps84
    go_wp2
    go_ret
    exact ⟨ret_bool (decide_eq_false (fun e => hl (by rw [e]))).symm, Below.refl _ _⟩
theorem same22_any (va vb : Value) (a b : List Wr) (w : World) (S : Nat → Prop) (ha : RWrs w S va a) (hb : RWrs w S vb b) :
    Calls Try.prog 52 #[va, vb] w fun e w' => e = .returned (.bool (decide (a = b))) ∧ Below w.heap.size w w' := by
  go_enter Try.func52, Try.ntmps52
  go_wp2_with (first | (go_at_call 84; refine (sameWrites_any _ _ a b _ S ha hb).mono ?_; rintro e w1 ⟨rfl, hb1⟩))
  go_ret
  exact ⟨rfl, hb1⟩
end Go.Proofs.Ytccbbecfmfldbaa
