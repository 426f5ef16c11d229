import Derived.Test.YtoifinmcoldidaaC16
import Derived.Test.YtoifinmcoldidaaMaths
set_option maxRecDepth 100000
set_option linter.unusedVariables false
set_option linter.unusedSimpArgs false
namespace Go.Proofs.Ytoifinmcoldidaa
open Go.RowKit Go.Mm Sb

/-! ### awake -/
section
variable {k : Nat} {α : Type} {R : ERel α} {w : World} {S : Nat → Prop} {xs : List α}
theorem RSl.ofBlk {g : Nat} {t : TypeId} {css : List (List Value)} {cap : Nat} (hk : ∀ cs ∈ css, cs.length = k) (h : Blk w g t css.flatten.toArray) (hl : css.length = xs.length) (hc : xs.length ≤ cap) (hm : cap ≤ maxLen)
    (hR : ∀ (j : Nat) (cs : List Value) (x : α), css[j]? = some cs → xs[j]? = some x → R w S cs x) (hS : S g) : RSl k R w S (.slice (some ⟨g, 0, none⟩) xs.length cap) xs := by
  refine ⟨_, cap, rfl, hc, hm, fun _ => ⟨g, 0, rfl, h.lt, hS, fun j x hj => ?_⟩⟩
  have hjl : j < css.length := by rw [hl]; exact (List.getElem?_eq_some_iff.1 hj).1
  have hcj := List.getElem?_eq_getElem hjl
  refine ⟨css[j], hk _ (List.getElem_mem hjl), fun i hi => ?_, hR j _ x hcj hj⟩
  rw [← flatten_get hk hcj i hi, h.cell]
  simp
end
theorem bytes_of {w : World} {g : Nat} {t : TypeId} {bs : List Int} (h : Blk w g t (bs.map fun b => Value.int .u8 b).toArray) {cap : Nat} (hc : bs.length ≤ cap := by decide) (hm : cap ≤ maxLen := by decide) : RSl 1 RByte w Any (.slice (some ⟨g, 0, none⟩) bs.length cap) bs := by
  refine RSl.ofBlk (css := bs.map fun b => [Value.int .u8 b]) (t := t) (by simp) ?_ (by simp) hc hm ?_ trivial
  · have : ((bs.map fun b => [Value.int .u8 b]).flatten) = bs.map fun b => Value.int .u8 b := by
      clear h hc
      induction bs with
      | nil => rfl
      | cons a l ih => simpa using ih
    rw [this]; exact h
  · intro j cs x h1 h2
    simp [List.getElem?_map, h2] at h1
    exact h1.symm
theorem wrs1 {w : World} {g : Nat} {t : TypeId} {v s : Int} {A : Option Addr} {n c : Nat} {d : List Sec} (h : Blk w g t #[.int .i64 v, .int .i64 s, .slice A n c]) (hd : RSecs w Any (.slice A n c) d) (hv : In64 v := by unfold In64; omega) (hs : In64 s := by unfold In64; omega) :
    RWrs w Any (.slice (some ⟨g, 0, none⟩) 1 1) [⟨v, s, d⟩] := by
  refine RSl.ofBlk (k := 3) (cap := 1) (R := RWr) (S := Any) (xs := [⟨v, s, d⟩]) (css := [[.int .i64 v, .int .i64 s, .slice A n c]]) (t := t) (by simp) h rfl (Nat.le_refl _) (by decide) ?_ trivial
  intro j cs x h1 h2
  match j with
  | 0 => simp at h1 h2; subst h1; subst h2; exact ⟨hv, hs, _, rfl, hd⟩
  | j + 1 => simp at h1
theorem wrs3 {w : World} {g : Nat} {t : TypeId} {v s v' s' v'' s'' : Int} {A A' A'' : Option Addr} {n c n' c' n'' c'' : Nat} {d d' d'' : List Sec} (h : Blk w g t #[.int .i64 v, .int .i64 s, .slice A n c, .int .i64 v', .int .i64 s', .slice A' n' c', .int .i64 v'', .int .i64 s'', .slice A'' n'' c''])
    (hd : RSecs w Any (.slice A n c) d) (hd' : RSecs w Any (.slice A' n' c') d') (hd'' : RSecs w Any (.slice A'' n'' c'') d'')
    (hv : In64 v := by unfold In64; omega) (hs : In64 s := by unfold In64; omega) (hv' : In64 v' := by unfold In64; omega) (hs' : In64 s' := by unfold In64; omega) (hv'' : In64 v'' := by unfold In64; omega) (hs'' : In64 s'' := by unfold In64; omega) :
    RWrs w Any (.slice (some ⟨g, 0, none⟩) 3 3) [⟨v, s, d⟩, ⟨v', s', d'⟩, ⟨v'', s'', d''⟩] := by
  refine RSl.ofBlk (k := 3) (cap := 3) (R := RWr) (S := Any) (xs := [⟨v, s, d⟩, ⟨v', s', d'⟩, ⟨v'', s'', d''⟩]) (css := [[.int .i64 v, .int .i64 s, .slice A n c], [.int .i64 v', .int .i64 s', .slice A' n' c'], [.int .i64 v'', .int .i64 s'', .slice A'' n'' c'']]) (t := t) (by simp) h rfl (Nat.le_refl _) (by decide) ?_ trivial
  intro j cs x h1 h2
  match j with
  | 0 => simp at h1 h2; subst h1; subst h2; exact ⟨hv, hs, _, rfl, hd⟩
  | 1 => simp at h1 h2; subst h1; subst h2; exact ⟨hv', hs', _, rfl, hd'⟩
  | 2 => simp at h1 h2; subst h1; subst h2; exact ⟨hv'', hs'', _, rfl, hd''⟩
  | j + 3 => simp at h1
def exK : List Ext := [⟨2, 1⟩, ⟨9, 1⟩]
theorem exts_of {w : World} {g : Nat} {t : TypeId} (h : Blk w g t #[.int .i64 2, .int .i64 1, .int .i64 9, .int .i64 1]) : RExts w Any (.slice (some ⟨g, 0, none⟩) 2 2) exK := by
  refine RSl.ofBlk (k := 2) (cap := 2) (xs := exK) (css := [[.int .i64 2, .int .i64 1], [.int .i64 9, .int .i64 1]]) (t := t) (by simp) h rfl (Nat.le_refl _) (by decide) ?_ trivial
  intro j cs x h1 h2
  match j with
  | 0 => simp [exK] at h1 h2; subst h1; subst h2; exact ⟨by unfold In64; decide, by unfold In64; decide, rfl⟩
  | 1 => simp [exK] at h1 h2; subst h1; subst h2; exact ⟨by unfold In64; decide, by unfold In64; decide, rfl⟩
  | j + 2 => simp at h1
theorem exA_foldI : foldI exA = 0 := by kernel_rfl
theorem exB_foldI : foldI exB = 0 := by kernel_rfl
theorem exA_foldR : foldR exA = exA' := by unfold foldR; rw [if_pos exA_foldI, exA_fold]
theorem exB_foldR : foldR exB = exB' := by unfold foldR; rw [if_pos exB_foldI, exB_fold]
theorem exC_mergeI : mergeI exC1 exC2 = 0 := by kernel_rfl
theorem exC_mergeR : mergeR exC1 exC2 = exC' := by unfold mergeR; rw [if_pos exC_mergeI, exC_fold]
theorem exD_chkI : chkI plI none exC' = 0 := by kernel_rfl
theorem exD_restrictR : restrictR exC' 0 exK = exD' := by
  unfold restrictR
  rw [if_pos exD_chkI]
  refine canonOf_small ⟨by simp [exD'], by simp [exD']⟩ (by kernel_rfl) (fun v s hh => ?_) (by kernel_rfl)
  show (if v = 0 ∧ memC exK s = true then eff exC' v s else none) = none
  rw [eff_box (by kernel_rfl) v s hh]; split <;> rfl
end Go.Proofs.Ytoifinmcoldidaa
