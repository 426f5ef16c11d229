import Derived.Test.YtccbbecfmfldbaaQ1
import Derived.KernelRfl
import Derived.Test.YtccbbecfmfldbaaQ20
import Derived.Test.YtccbbecfmfldbaaQ15
set_option linter.unusedVariables false
namespace Sb

/-! ### the examples of chapter 22 -/
def InBox (v s : Int) : Prop := 0 ≤ v ∧ v < 2 ∧ 0 ≤ s ∧ s < 10
theorem box_eq {f g : Int → Int → Option Sec} (hf : ∀ v s, ¬ InBox v s → f v s = none) (hg : ∀ v s, ¬ InBox v s → g v s = none)
    (h : ((List.range 2).all fun v => (List.range 10).all fun s => decide (f (v : Nat) (s : Nat) = g (v : Nat) (s : Nat))) = true) (v s : Int) : f v s = g v s := by
  by_cases hb : InBox v s
  · obtain ⟨h1, h2, h3, h4⟩ := hb
    obtain ⟨a, rfl⟩ := Int.eq_ofNat_of_zero_le h1
    obtain ⟨b, rfl⟩ := Int.eq_ofNat_of_zero_le h3
    have := (List.all_eq_true.1 ((List.all_eq_true.1 h) a (List.mem_range.2 (by omega)))) b (List.mem_range.2 (by omega))
    exact of_decide_eq_true this
  · rw [hf v s hb, hg v s hb]
def boxed (l : List Wr) : Bool := l.all fun w => decide (0 ≤ w.vol ∧ w.vol < 2 ∧ 0 ≤ w.start ∧ w.start + w.data.length ≤ 10)
theorem eff_box : ∀ {l : List Wr}, boxed l = true → ∀ v s, ¬ InBox v s → eff l v s = none
  | [], _, _, _, _ => rfl
  | w :: l, h, v, s, hh => by
    unfold boxed at h
    rw [List.all_cons, Bool.and_eq_true] at h
    have h1 := of_decide_eq_true h.1
    rw [eff_cons, eff_box h.2 v s hh, at?_none_of (fun e => hh ⟨by omega, by omega, by omega, by omega⟩)]
    rfl
theorem canonOf_small {f : Int → Int → Option Sec} {c : List Wr} (hc : Canon c) (hb : boxed c = true) (hf : ∀ v s, ¬ InBox v s → f v s = none)
    (h : ((List.range 2).all fun v => (List.range 10).all fun s => decide (eff c (v : Nat) (s : Nat) = f (v : Nat) (s : Nat))) = true) : canonOf f = c :=
  (canonOf_eq (fun v s hh => hf v s (fun e => hh ⟨by have := e.1; omega, by have := e.2.1; omega, by have := e.2.2.1; omega, by have := e.2.2.2; omega⟩)) hc (box_eq (eff_box hb) hf h)).symm
def s1 (b : Int) : Sec := ⟨b, 0, 0, 0, 0, 0, 0, 0⟩
def exA : List Wr := [⟨0, 2, [s1 1, s1 2]⟩, ⟨0, 3, [s1 3]⟩, ⟨0, 4, [s1 4]⟩]
def exA' : List Wr := [⟨0, 2, [s1 1, s1 3, s1 4]⟩]
def exB : List Wr := [⟨1, 5, [s1 1]⟩, ⟨0, 0, [s1 2]⟩, ⟨0, 2, [s1 3]⟩]
def exB' : List Wr := [⟨0, 0, [s1 2]⟩, ⟨0, 2, [s1 3]⟩, ⟨1, 5, [s1 1]⟩]
def exC1 : List Wr := [⟨0, 2, [s1 1, s1 2]⟩]
def exC2 : List Wr := [⟨0, 1, [s1 3]⟩]
def exC' : List Wr := [⟨0, 1, [s1 3, s1 1, s1 2]⟩]
def exD' : List Wr := [⟨0, 2, [s1 1]⟩]
theorem exA_fold : foldW exA = exA' := canonOf_small ⟨by simp [exA'], by simp [exA']⟩ (by kernel_rfl) (eff_box (by kernel_rfl)) (by kernel_rfl)
theorem exB_fold : foldW exB = exB' := canonOf_small ⟨by simp [exB'], by simp [exB', Behind]⟩ (by kernel_rfl) (eff_box (by kernel_rfl)) (by kernel_rfl)
theorem exC_fold : foldW (exC1 ++ exC2) = exC' := canonOf_small ⟨by simp [exC'], by simp [exC']⟩ (by kernel_rfl) (eff_box (by kernel_rfl)) (by kernel_rfl)
end Sb

set_option maxRecDepth 100000
set_option linter.unusedVariables false
set_option linter.unusedSimpArgs false
namespace Go.Proofs.Ytccbbecfmfldbaa
open Go.RowKit Go.Mm Sb

/-! ### awake -/
section
variable {k : Nat} {α : Type} {R : ERel α} {w : World} {S : Nat → Prop} {xs : List α}
theorem RSl.ofBlk {g : Nat} {t : TypeId} {css : List (List Value)} {cap : Nat} (hk : ∀ cs ∈ css, cs.length = k) (h : Blk w g t css.flatten.toArray) (hl : css.length = xs.length) (hc : xs.length ≤ cap) (hm : cap ≤ maxLen)
    (hR : ∀ (j : Nat) (cs : List Value) (x : α), css[j]? = some cs → xs[j]? = some x → R w S cs x) (hS : S g) : RSl k R w S (.slice (some ⟨g, 0, none⟩) xs.length cap) xs := by
  refine ⟨_, cap, rfl, hc, hm, fun _ => ⟨g, 0, rfl, h.lt, hS, fun j x hj => ?_⟩⟩
  have hjl : j < css.length := by rw [hl]; exact (List.getElem?_eq_some_iff.1 hj).1
  have hcj := List.getElem?_eq_getElem hjl
  refine ⟨css[j], hk _ (List.getElem_mem hjl), fun i hi => ?_, hR j _ x hcj hj⟩
  rw [← flatten_get hk hcj i hi, h.cell]
  simp
end
theorem bytes_of {w : World} {g : Nat} {t : TypeId} {bs : List Int} (h : Blk w g t (bs.map fun b => Value.int .u8 b).toArray) {cap : Nat} (hc : bs.length ≤ cap := by decide) (hm : cap ≤ maxLen := by decide) : RSl 1 RByte w Any (.slice (some ⟨g, 0, none⟩) bs.length cap) bs := by
  refine RSl.ofBlk (css := bs.map fun b => [Value.int .u8 b]) (t := t) (by simp) ?_ (by simp) hc hm ?_ trivial
  · have : ((bs.map fun b => [Value.int .u8 b]).flatten) = bs.map fun b => Value.int .u8 b := by
      clear h hc
      induction bs with
      | nil => rfl
      | cons a l ih => simpa using ih
    rw [this]; exact h
  · intro j cs x h1 h2
    simp [List.getElem?_map, h2] at h1
    exact h1.symm
theorem wrs1 {w : World} {g : Nat} {t : TypeId} {v s : Int} {A : Option Addr} {n c : Nat} {d : List Sec} (h : Blk w g t #[.int .i64 v, .int .i64 s, .slice A n c]) (hd : RSecs w Any (.slice A n c) d) (hv : In64 v := by unfold In64; omega) (hs : In64 s := by unfold In64; omega) :
    RWrs w Any (.slice (some ⟨g, 0, none⟩) 1 1) [⟨v, s, d⟩] := by
  refine RSl.ofBlk (k := 3) (cap := 1) (R := RWr) (S := Any) (xs := [⟨v, s, d⟩]) (css := [[.int .i64 v, .int .i64 s, .slice A n c]]) (t := t) (by simp) h rfl (Nat.le_refl _) (by decide) ?_ trivial
  intro j cs x h1 h2
  match j with
  | 0 => simp at h1 h2; subst h1; subst h2; exact ⟨hv, hs, _, rfl, hd⟩
  | j + 1 => simp at h1
theorem wrs3 {w : World} {g : Nat} {t : TypeId} {v s v' s' v'' s'' : Int} {A A' A'' : Option Addr} {n c n' c' n'' c'' : Nat} {d d' d'' : List Sec} (h : Blk w g t #[.int .i64 v, .int .i64 s, .slice A n c, .int .i64 v', .int .i64 s', .slice A' n' c', .int .i64 v'', .int .i64 s'', .slice A'' n'' c''])
    (hd : RSecs w Any (.slice A n c) d) (hd' : RSecs w Any (.slice A' n' c') d') (hd'' : RSecs w Any (.slice A'' n'' c'') d'')
    (hv : In64 v := by unfold In64; omega) (hs : In64 s := by unfold In64; omega) (hv' : In64 v' := by unfold In64; omega) (hs' : In64 s' := by unfold In64; omega) (hv'' : In64 v'' := by unfold In64; omega) (hs'' : In64 s'' := by unfold In64; omega) :
    RWrs w Any (.slice (some ⟨g, 0, none⟩) 3 3) [⟨v, s, d⟩, ⟨v', s', d'⟩, ⟨v'', s'', d''⟩] := by
  refine RSl.ofBlk (k := 3) (cap := 3) (R := RWr) (S := Any) (xs := [⟨v, s, d⟩, ⟨v', s', d'⟩, ⟨v'', s'', d''⟩]) (css := [[.int .i64 v, .int .i64 s, .slice A n c], [.int .i64 v', .int .i64 s', .slice A' n' c'], [.int .i64 v'', .int .i64 s'', .slice A'' n'' c'']]) (t := t) (by simp) h rfl (Nat.le_refl _) (by decide) ?_ trivial
  intro j cs x h1 h2
  match j with
  | 0 => simp at h1 h2; subst h1; subst h2; exact ⟨hv, hs, _, rfl, hd⟩
  | 1 => simp at h1 h2; subst h1; subst h2; exact ⟨hv', hs', _, rfl, hd'⟩
  | 2 => simp at h1 h2; subst h1; subst h2; exact ⟨hv'', hs'', _, rfl, hd''⟩
  | j + 3 => simp at h1
def exK : List Ext := [⟨2, 1⟩, ⟨9, 1⟩]
theorem exts_of {w : World} {g : Nat} {t : TypeId} (h : Blk w g t #[.int .i64 2, .int .i64 1, .int .i64 9, .int .i64 1]) : RExts w Any (.slice (some ⟨g, 0, none⟩) 2 2) exK := by
  refine RSl.ofBlk (k := 2) (cap := 2) (xs := exK) (css := [[.int .i64 2, .int .i64 1], [.int .i64 9, .int .i64 1]]) (t := t) (by simp) h rfl (Nat.le_refl _) (by decide) ?_ trivial
  intro j cs x h1 h2
  match j with
  | 0 => simp [exK] at h1 h2; subst h1; subst h2; exact ⟨by unfold In64; decide, by unfold In64; decide, rfl⟩
  | 1 => simp [exK] at h1 h2; subst h1; subst h2; exact ⟨by unfold In64; decide, by unfold In64; decide, rfl⟩
  | j + 2 => simp at h1
theorem exA_foldI : foldI exA = 0 := by kernel_rfl
theorem exB_foldI : foldI exB = 0 := by kernel_rfl
theorem exA_foldR : foldR exA = exA' := by unfold foldR; rw [if_pos exA_foldI, exA_fold]
theorem exB_foldR : foldR exB = exB' := by unfold foldR; rw [if_pos exB_foldI, exB_fold]
theorem exC_mergeI : mergeI exC1 exC2 = 0 := by kernel_rfl
theorem exC_mergeR : mergeR exC1 exC2 = exC' := by unfold mergeR; rw [if_pos exC_mergeI, exC_fold]
theorem exD_chkI : chkI plI none exC' = 0 := by kernel_rfl
theorem exD_restrictR : restrictR exC' 0 exK = exD' := by
  unfold restrictR
  rw [if_pos exD_chkI]
  refine canonOf_small ⟨by simp [exD'], by simp [exD']⟩ (by kernel_rfl) (fun v s hh => ?_) (by kernel_rfl)
  show (if v = 0 ∧ memC exK s = true then eff exC' v s else none) = none
  rw [eff_box (by kernel_rfl) v s hh]; split <;> rfl
end Go.Proofs.Ytccbbecfmfldbaa

set_option maxRecDepth 100000
set_option linter.unusedVariables false
set_option linter.unusedSimpArgs false
namespace Go.Proofs.Ytccbbecfmfldbaa
open Go.RowKit Go.Mm Sb
end Go.Proofs.Ytccbbecfmfldbaa

set_option maxRecDepth 100000
set_option linter.unusedVariables false
set_option linter.unusedSimpArgs false
namespace Go.Proofs.Ytccbbecfmfldbaa
open Go.RowKit Go.Mm Sb

/-! ### Few -/
def FewP (l : List Wr) : Prop := l.length ≤ 40 ∧ ∀ x ∈ l, x.data.length ≤ 24
set_option maxHeartbeats 2000000 in
theorem few_any (v : Value) (l : List Wr) (w : World) (S : Nat → Prop) (h : RWrs w S v l) :
    Calls Try.prog 47 #[v] w fun e w' => ∃ q : Bool, e = .returned (.bool q) ∧ (q = true → FewP l) ∧ Below w.heap.size w w' := by
  obtain ⟨A, cap, rfl, hcap, hm⟩ := h.val
  unfold maxLen at hm
  go_enter Try.func47, Try.ntmps47
  go_wp2
  go_loopw [3] (fun i wr => ∃ k : Nat, k ≤ l.length ∧ k ≤ 60 ∧ i = .int .i64 k ∧ (∀ x ∈ l.take k, x.data.length ≤ 24) ∧ Below w.heap.size w wr) (fun i _ => l.length - (intOf i).toNat)
  case atStart => exact ⟨0, Nat.zero_le _, by omega, rfl, by simp, Below.refl _ _⟩
  case round =>
    obtain ⟨k, hk, hk6, rfl, hn, hb⟩ := hrel
    have HN := Lib.hid hn
    clear hn
    by_cases hlt : k < l.length
    · by_cases h60 : k < 60
      · have t1 := decide_eq_true hlt
        have t2 := decide_eq_true h60
        obtain ⟨x, hx⟩ : ∃ x, l[k]? = some x := ⟨_, List.getElem?_eq_getElem hlt⟩
        obtain ⟨b, off, cs, rfl, hbl, _, hl, hc, hr⟩ := h.at_ hx
        obtain ⟨hv64, hs64, dv, rfl, hd⟩ := hr
        obtain ⟨Ad, dcap, rfl, hdc, hdm⟩ := hd.val
        unfold maxLen at hdm
        have c2 := (hb.cell (p := ⟨b, off + k * 3 + 2, none⟩) hbl).trans (hc 2 (by omega))
        clear hc hl
        simp at c2
        have HX := Lib.hid hx
        clear hx
        by_cases h24 : 24 < x.data.length
        · go_wp2
          go_ret
          exact ⟨_, rfl, by simp, hb⟩
        · go_wp2
          go_roundw
          case rel =>
            refine ⟨k + 1, by omega, by omega, by go_num, ?_, hb⟩
            intro y hy
            obtain ⟨hkk, hxx⟩ := List.getElem?_eq_some_iff.1 HX.out
            rw [List.take_succ_eq_append_getElem hkk] at hy
            rcases List.mem_append.1 hy with hy | hy
            · exact HN.out y hy
            · obtain rfl := List.mem_singleton.1 hy; rw [hxx]; omega
          case measure => simp [intOf]; omega
      · obtain rfl : k = 60 := by omega
        have hbig : ¬ l.length ≤ 40 := by omega
        go_wp2
        go_ret
        exact ⟨_, rfl, fun hq => absurd (of_decide_eq_true hq) (by omega), hb⟩
    · obtain rfl : k = l.length := by omega
      go_wp2
      go_ret
      refine ⟨_, rfl, fun hq => ?_, hb⟩
      have := of_decide_eq_true hq
      exact ⟨by omega, by have := HN.out; rwa [List.take_length] at this⟩
end Go.Proofs.Ytccbbecfmfldbaa
