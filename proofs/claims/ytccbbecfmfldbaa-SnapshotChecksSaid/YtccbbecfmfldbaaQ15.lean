import Derived.Test.YtccbbecfmfldbaaQ13
import Derived.Test.YtccbbecfmfldbaaQ9
import Derived.Deep.OwnRows
import Derived.Test.YtccbbecfmfldbaaQ1
import Derived.Test.YtccbbecfmfldbaaQ2
import Derived.Test.YtccbbecfmfldbaaQ14
set_option linter.unusedVariables false
set_option linter.unusedSimpArgs false
namespace Go.Mm
open Go.RowKit Sb

/-! ### an element of an owned row turns; rows of marks -/
theorem flatten_set {k : Nat} : ∀ {css : List (List Value)} (h : ∀ cs ∈ css, cs.length = k) {j : Nat} {cs : List Value} (hj : css[j]? = some cs) (i : Nat) (hi : i < k) (u : Value), (css.set j (cs.set i u)).flatten = css.flatten.set (j * k + i) u
  | [], _, _, _, hj, _, _, _ => by simp at hj
  | c :: css, h, 0, cs, hj, i, hi, u => by
    simp at hj; subst hj
    have := h c (by simp)
    simp only [List.set_cons_zero, List.flatten_cons, Nat.zero_mul, Nat.zero_add]
    rw [List.set_append_left _ _ (by omega)]
  | c :: css, h, j + 1, cs, hj, i, hi, u => by
    have hc := h c (by simp)
    have ih := flatten_set (css := css) (fun x hx => h x (by simp [hx])) (j := j) (by simpa using hj) i hi u
    simp only [List.set_cons_succ, List.flatten_cons]
    rw [ih, List.set_append_right _ _ (by rw [hc, Nat.add_mul]; omega)]
    congr 2
    rw [hc, Nat.add_mul]; omega

theorem OwnSl.setPure {α : Type} {enc : α → List Value} {e : TypeId} {k : Nat} {w : World} {base : Nat} {S : Nat → Prop} {g n cap : Nat} {xs : List α}
    (h : OwnSl e k (RPure enc) w base S (.slice (some ⟨g, 0, none⟩) n cap) xs) (hk : ∀ x, (enc x).length = k) {j i : Nat} {x x' : α} (hj : xs[j]? = some x) (hi : i < k) {u : Value} (hx : enc x' = (enc x).set i u) :
    OwnSl e k (RPure enc) (w.setCell ⟨g, j * k + i, none⟩ u) base S (.slice (some ⟨g, 0, none⟩) n cap) (xs.set j x') ∧ w.grownBy (w.setCell ⟨g, j * k + i, none⟩ u) (some g) := by
  obtain ⟨c, o1, o2, o3, o4⟩ := h
  have hc : c = xs.map enc := by
    refine List.ext_getElem (by simpa using o2) fun i hi hi' => ?_
    have := o4 i _ _ (List.getElem?_eq_getElem hi) (List.getElem?_eq_getElem (by omega))
    simpa [RPure] using this
  subst hc
  have hjl : j < xs.length := (List.getElem?_eq_some_iff.1 hj).1
  obtain rfl : n = xs.length := by
    rcases o1.2 with ⟨hv, _⟩ | ⟨g', cap', cur, hv, _⟩
    · cases hv
    · injection hv
  have hlt : j * k + i < xs.length * k := by
    have : (j + 1) * k ≤ xs.length * k := Nat.mul_le_mul_right _ hjl
    rw [Nat.add_mul] at this; omega
  have := o1.stored (j * k + i) u
  refine ⟨⟨(xs.set j x').map enc, ?_, by simp, ?_, ?_⟩, this.2⟩
  · rw [List.map_set, hx, flatten_set (by simpa using fun a _ => hk a) (by simp [hj]) i hi u]
    simpa using this.1
  · intro cs hcs
    obtain ⟨y, _, rfl⟩ := List.mem_map.1 hcs
    exact hk y
  · intro m cs y hm hy
    rw [List.getElem?_map, hy] at hm
    simp at hm
    exact hm.symm

/-- A row of marks: 'make([]bool, n)' and what is stored there. -/
def markCells (p : List Bool) : Array Value := (p.map Value.bool).toArray
theorem markCells_made (n : Nat) : madeCells #[.bool false] n = markCells (List.replicate n false) := by
  apply Array.ext'
  rw [toList_madeCells_one]
  simp [markCells]
theorem markCells_set (p : List Bool) (i : Nat) (b : Bool) : (markCells p).setIfInBounds i (.bool b) = markCells (p.set i b) := by
  simp [markCells, List.map_set]
theorem markCells_get {p : List Bool} {i : Nat} {b : Bool} (h : p[i]? = some b) : (markCells p)[i]? = some (.bool b) := by
  simp [markCells, h]
/-- marks 0 to n - 1 as a function says -/
def marksOf (n : Nat) (p : Int → Bool) : List Bool := (List.range n).map fun i => p (i : Nat)
theorem marksOf_len (n : Nat) (p : Int → Bool) : (marksOf n p).length = n := by simp [marksOf]
theorem marksOf_get {n : Nat} (p : Int → Bool) {i : Nat} (h : i < n) : (marksOf n p)[i]? = some (p i) := by simp [marksOf, h]
theorem marksOf_none (n : Nat) : List.replicate n false = marksOf n fun _ => false := by
  refine List.ext_getElem (by simp [marksOf]) fun i h1 h2 => by simp [marksOf]
theorem marksOf_congr {n : Nat} {p q : Int → Bool} (h : ∀ s : Int, 0 ≤ s → s < n → p s = q s) : marksOf n p = marksOf n q := by
  refine List.ext_getElem (by simp [marksOf]) fun i h1 h2 => ?_
  simp [marksOf] at h1 ⊢
  exact h i (by omega) (by omega)
theorem marksOf_set {n : Nat} (p : Int → Bool) {i : Nat} (h : i < n) : (marksOf n p).set i true = marksOf n fun s => p s || decide (s = i) := by
  refine List.ext_getElem (by simp [marksOf]) fun j h1 h2 => ?_
  simp only [List.getElem_set, marksOf, List.getElem_map, List.getElem_range]
  by_cases hj : i = j
  · subst hj; simp
  · have : ¬ ((j : Int) = (i : Int)) := by omega
    simp [hj, this]
end Go.Mm

set_option linter.unusedVariables false
namespace Sb

/-! ### sizes of canonical lists; merging -/
def secL (l : List Wr) : Nat := (l.map fun w => w.data.length).sum
theorem canon_bound : ∀ {l : List Wr} {lo : Int}, Canon l → AllPlaced l → 0 ≤ lo → lo ≤ 32776 → (∀ x ∈ l, lo ≤ x.vol * 4097 + x.start) → (secL l : Int) + lo ≤ 32776 ∧ l.length ≤ secL l
  | [], lo, _, _, _, h, _ => ⟨by simp [secL]; omega, by simp⟩
  | w :: l, lo, hc, hp, h0, h, hl => by
    have hw := hp w (by simp)
    have h1 := hl w (by simp)
    have hne := len_pos hw.ne
    have a1 := hw.v0; have a2 := hw.v8; have a3 := hw.s0; have a4 := hw.s4
    have ih := canon_bound (lo := w.vol * 4097 + w.start + w.data.length) hc.tail (fun x hx => hp x (by simp [hx])) (by omega) (by omega) (fun x hx => by
      have hb := hc.head x hx
      have hx := hp x (by simp [hx])
      have := hx.s0
      unfold Behind at hb
      rcases hb with hb | ⟨hb1, hb2⟩
      · omega
      · omega)
    have e : secL (w :: l) = w.data.length + secL l := by simp [secL]
    rw [e]
    simp only [List.length_cons]
    omega
theorem fold_bound {l : List Wr} (h : AllPlaced l) : secL (foldW l) ≤ 32776 ∧ (foldW l).length ≤ 32776 := by
  have := canon_bound (foldW_canon l) (foldW_placed h) (Int.le_refl 0) (by omega) (fun x hx => by have a1 := (foldW_placed h x hx).v0; have a2 := (foldW_placed h x hx).s0; omega)
  omega
theorem foldW_congr {a b : List Wr} (h : eff a = eff b) : foldW a = foldW b := by unfold foldW; rw [h]
theorem eff_app (a b : List Wr) : eff (a ++ b) = fun v s => (eff b v s).or (eff a v s) := by funext v s; exact eff_append a b v s
theorem placed_app {a b : List Wr} (h1 : AllPlaced a) (h2 : AllPlaced b) : AllPlaced (a ++ b) := fun w hw => by
  rcases List.mem_append.1 hw with hw | hw
  · exact h1 w hw
  · exact h2 w hw
theorem merge_fold {a b : List Wr} (ha : AllPlaced a) (hb : AllPlaced b) : foldW (foldW a ++ foldW b) = foldW (a ++ b) :=
  foldW_congr (by rw [eff_app, eff_app, foldW_eff ha, foldW_eff hb])
theorem fold_fold {a : List Wr} (ha : AllPlaced a) : foldW (foldW a) = foldW a := foldW_id (foldW_canon a) (foldW_placed ha)
end Sb

set_option linter.unusedVariables false
namespace Sb

/-! ### the reference's way: marks, runs, the last write to a sector -/
def Wr.ext (w : Wr) : Ext := ⟨w.start, w.data.length⟩
def markedBy (l : List Wr) (v s : Int) : Bool := l.any fun w => decide (w.vol = v) && w.ext.holds s
theorem markedBy_nil (v s : Int) : markedBy [] v s = false := rfl
theorem markedBy_snoc (l : List Wr) (w : Wr) (v s : Int) : markedBy (l ++ [w]) v s = (markedBy l v s || (decide (w.vol = v) && w.ext.holds s)) := by simp [markedBy]
theorem eff_isSome : ∀ (l : List Wr) (v s : Int), (eff l v s).isSome = l.any fun w => (w.at? v s).isSome
  | [], v, s => rfl
  | w :: l, v, s => by
    rw [eff_cons, Option.isSome_or, eff_isSome l v s, List.any_cons, Bool.or_comm]
theorem holds_at (w : Wr) (v s : Int) (h0 : 0 ≤ s) (h1 : s < 4096) : (decide (w.vol = v) && w.ext.holds s) = (w.at? v s).isSome := by
  rw [Bool.eq_iff_iff, at?_isSome, Bool.and_eq_true, Ext.holds_iff]
  simp only [Wr.ext, decide_eq_true_eq]
  constructor
  · intro ⟨a, b, c, _, _⟩; exact ⟨a, b, c⟩
  · intro ⟨a, b, c⟩; exact ⟨a, b, c, h0, h1⟩
theorem marked_eff (l : List Wr) (v : Int) : runsE (markedBy l v) 4096 = runsE (fun s => (eff l v s).isSome) 4096 :=
  runsE_congr fun s h0 h1 => by
    rw [eff_isSome]
    unfold markedBy
    congr 1
    funext w
    exact holds_at w v s h0 (by omega)
/-- What the reference's Fold has behind k volumes. -/
def refK (l : List Wr) (k : Nat) : List Wr := (List.range k).flatMap fun v => pickW (eff l) (v : Nat) (runsE (markedBy l (v : Nat)) 4096)
theorem refK_zero (l : List Wr) : refK l 0 = [] := rfl
theorem refK_succ (l : List Wr) (k : Nat) : refK l (k + 1) = refK l k ++ pickW (eff l) (k : Nat) (runsE (markedBy l (k : Nat)) 4096) := by
  unfold refK; rw [List.range_succ, List.flatMap_append]; simp
theorem refK_all (l : List Wr) : refK l 8 = foldW l := by
  unfold refK foldW canonOf canonV
  congr 1
  funext v
  rw [marked_eff]
theorem pickW_snoc (f : Int → Int → Option Sec) (v : Int) (l : List Ext) {k : Nat} {e : Ext} (h : l[k]? = some e) : pickW f v (l.take (k + 1)) = pickW f v (l.take k) ++ [pick1 f v e] := by
  obtain ⟨hk, rfl⟩ := List.getElem?_eq_some_iff.1 h
  unfold pickW
  rw [List.take_succ_eq_append_getElem hk, List.map_append]
  rfl
/-- one write, its first k sectors -/
def pickD (f : Int → Int → Option Sec) (v : Int) (e : Ext) (k : Nat) : List Sec := (List.range k).map fun k => (f v (e.start + (k : Nat))).getD Sec.zero
theorem pickD_succ (f : Int → Int → Option Sec) (v : Int) (e : Ext) (k : Nat) : pickD f v e (k + 1) = pickD f v e k ++ [(f v (e.start + (k : Nat))).getD Sec.zero] := by
  unfold pickD; rw [List.range_succ]; simp
theorem pickD_len (f : Int → Int → Option Sec) (v : Int) (e : Ext) (k : Nat) : (pickD f v e k).length = k := by simp [pickD]
theorem pick1_eq (f : Int → Int → Option Sec) (v : Int) (e : Ext) : pick1 f v e = ⟨v, e.start, pickD f v e e.count.toNat⟩ := rfl
theorem eff_take {l : List Wr} {k : Nat} {w : Wr} (h : l[k]? = some w) (v s : Int) : eff (l.take (k + 1)) v s = (w.at? v s).or (eff (l.take k) v s) := by
  obtain ⟨hk, rfl⟩ := List.getElem?_eq_some_iff.1 h
  rw [List.take_succ_eq_append_getElem hk, eff_snoc]
end Sb

set_option maxRecDepth 100000
set_option linter.unusedVariables false
set_option linter.unusedSimpArgs false
namespace Go.Proofs.Ytccbbecfmfldbaa
open Go.RowKit Go.Mm Sb

/-! ### the reference: Most, Add, List -/
theorem infoI : (Try.prog.info? 3).map (fun i => (i.zero, i.size, i.bytes)) = some (some (.int .i64 0), 1, 8) := by kernel_rfl
theorem infoB : (Try.prog.info? 4).map (fun i => (i.zero, i.size, i.bytes)) = some (some (.bool false), 1, 1) := by kernel_rfl
def sizes8 : List Int := List.replicate 8 4096
/-- marks that are read -/
def RdMarks (w : World) (g n : Nat) (p : Int → Bool) : Prop := g < w.heap.size ∧ ∀ i, i < n → w.cell? ⟨g, i, none⟩ = some (.bool (p i))
def Marks (w : World) (g n : Nat) (p : Int → Bool) : Prop := Blk w g 4 (markCells (marksOf n p))
theorem Marks.rd {w : World} {g n : Nat} {p : Int → Bool} (h : Marks w g n p) : RdMarks w g n p := ⟨h.lt, fun i hi => by
  rw [Blk.cell h]; exact markCells_get (marksOf_get p hi)⟩
theorem Marks.set_ {w : World} {g n : Nat} {p : Int → Bool} (h : Marks w g n p) {i : Nat} (hi : i < n) : Marks (w.setCell ⟨g, i, none⟩ (.bool true)) g n fun s => p s || decide (s = i) := by
  have := Blk.set_ h i (.bool true)
  rw [markCells_set, marksOf_set p hi] at this
  exact this
theorem Marks.congr {w : World} {g n : Nat} {p q : Int → Bool} (h : Marks w g n p) (hc : ∀ s : Int, 0 ≤ s → s < n → p s = q s) : Marks w g n q := by
  unfold Marks; rw [← marksOf_congr hc]; exact h
theorem Marks.below {w w' : World} {g n : Nat} {p : Int → Bool} (h : Marks w g n p) (hb : Below w.heap.size w w') : Marks w' g n p := Blk.below h hb
theorem add_step (p : Int → Bool) (lo k s : Int) (h : lo ≤ k) : ((p s || (decide (lo ≤ s) && decide (s < k))) || decide (s = k)) = (p s || (decide (lo ≤ s) && decide (s < k + 1))) := by
  rw [Bool.or_assoc]
  congr 1
  rw [Bool.eq_iff_iff]
  simp only [Bool.or_eq_true, Bool.and_eq_true, decide_eq_true_eq]
  omega
theorem grown_none {w w' : World} (h : w.grownBy w' none) (row : Option Nat) : w.grownBy w' row := ⟨h.os, h.tape, h.output, h.size, fun i hi _ => h.block i hi (by simp)⟩
def AddRet (x : Ext) (g : Nat) (p : Int → Bool) (w : World) (e : Ending) (w' : World) : Prop := e = .returned (.tuple #[]) ∧ Marks w' g 4096 (fun s => p s || x.holds s) ∧ w.grownBy w' (some g)
end Go.Proofs.Ytccbbecfmfldbaa

set_option maxRecDepth 100000
set_option linter.unusedVariables false
set_option linter.unusedSimpArgs false
namespace Go.Proofs.Ytccbbecfmfldbaa
open Go.RowKit Go.Mm Sb

/-! ### the reference: List -/
def encX (x : Ext) : List Value := [.int .i64 x.start, .int .i64 x.count]
theorem mem_has {e : Ext} : ∀ {l : List Ext}, e ∈ l → ∀ s, e.has s = true → mem l s = true := fun hm s hs => List.any_eq_true.2 ⟨e, hm, hs⟩
theorem canonE_pos : ∀ {lo : Int} {l : List Ext}, CanonE lo l → ∀ e ∈ l, lo ≤ e.start ∧ 0 < e.count
  | _, [], _, e, he => by simp at he
  | lo, x :: l, ⟨h1, h2, h3⟩, e, he => by
    rcases List.mem_cons.1 he with rfl | he
    · exact ⟨h1, h2⟩
    · have := canonE_pos h3 e he; exact ⟨by omega, this.2⟩
theorem runs_bound (p : Int → Bool) (n : Nat) : ∀ e ∈ runsE p n, 0 ≤ e.start ∧ 0 < e.count ∧ e.start + e.count ≤ (n : Int) := fun e he => by
  have h := runsE_spec p n
  have h1 := canonE_pos h.canon e he
  exact ⟨h1.1, h1.2, h.ends e he⟩
theorem canonE_len : ∀ {lo hi : Int} {l : List Ext}, CanonE lo l → lo ≤ hi → (∀ e ∈ l, e.start + e.count ≤ hi) → (l.length : Int) ≤ hi - lo
  | lo, hi, [], _, h, _ => by simp; omega
  | lo, hi, x :: l, ⟨h1, h2, h3⟩, h, he => by
    have hx := he x (by simp)
    rcases l with _ | ⟨y, l⟩
    · simp; omega
    · have hy := he y (by simp)
      have hp := (canonE_pos h3 y (by simp))
      have := canonE_len h3 (hi := hi) (by omega) (fun e h => he e (by simp [h]))
      simp only [List.length_cons] at this ⊢; omega
theorem runs_len (p : Int → Bool) (n : Nat) : (runsE p n).length ≤ n := by
  have h := runsE_spec p n
  have := canonE_len h.canon (hi := n) (by omega) (fun e he => h.ends e he)
  omega
theorem runs_no {p : Int → Bool} {k : Nat} (h : p k = false) : runsE p (k + 1) = runsE p k := by
  rw [runsE, if_neg (by simp [h])]
theorem runs_new {p : Int → Bool} {k : Nat} (h : p k = true) (h2 : ¬ (k ≠ 0 ∧ p ((k : Int) - 1) = true)) : runsE p (k + 1) = runsE p k ++ [⟨k, 1⟩] := by
  rw [runsE, if_pos h, if_neg h2]
theorem runs_more {p : Int → Bool} {k : Nat} (h : p k = true) (h2 : k ≠ 0) (h3 : p ((k : Int) - 1) = true) : ∃ (o : List Ext) (e : Ext), runsE p k = o ++ [e] ∧ runsE p (k + 1) = o ++ [⟨e.start, e.count + 1⟩] ∧ 0 ≤ e.start ∧ 0 < e.count ∧ e.start + e.count = (k : Int) := by
  obtain ⟨o, e, ho, he⟩ := (runsE_spec p k).last h2 h3
  have hb := runs_bound p k e (by rw [ho]; simp)
  refine ⟨o, e, ho, ?_, hb.1, hb.2.1, he⟩
  rw [runsE, if_pos h, if_pos ⟨h2, h3⟩, ho, bump_snoc]
theorem own_exts {e : TypeId} {w : World} {base : Nat} {v : Value} {l : List Ext} (h : OwnSl e 2 (RPure encX) w base (fun _ => False) v l) (h64 : ∀ x ∈ l, In64 x.start ∧ In64 x.count) {T : Nat → Prop} (hT : ∀ b, base ≤ b → T b) : RExts w T v l := by
  obtain ⟨A, cap, hv, hc1, hc2, hx⟩ := h.reads (T := T) (fun b hb hh => by rcases hh with hh | hh; cases hh; exact hT b (h.lt b hh.symm).1)
  refine ⟨A, cap, hv, hc1, hc2, fun h0 => ?_⟩
  obtain ⟨b, off, hA, hlt, hb, hxx⟩ := hx h0
  refine ⟨b, off, hA, hlt, hb, fun j x hj => ?_⟩
  obtain ⟨cs, hl, hc, hr⟩ := hxx j x hj
  have := h64 x (List.mem_of_getElem? hj)
  exact ⟨cs, hl, hc, this.1, this.2, hr⟩
theorem own_slice {e : TypeId} {k : Nat} {α : Type} {R : ERel α} {w : World} {base : Nat} {S : Nat → Prop} {v : Value} {xs : List α} (h : OwnSl e k R w base S v xs) (hne : xs ≠ []) :
    ∃ g cap, v = .slice (some ⟨g, 0, none⟩) xs.length cap ∧ base ≤ g ∧ g < w.heap.size ∧ xs.length ≤ cap ∧ cap ≤ maxLen ∧ ∀ j, w.frozen? ⟨g, j, none⟩ = false := by
  obtain ⟨c, h1, _⟩ := h
  rcases h1.2 with ⟨_, h0⟩ | ⟨g, cap, cur, hv, hbg, hg, hn, hm, _⟩
  · exact absurd (List.eq_nil_of_length_eq_zero h0) hne
  · exact ⟨g, cap, hv, hbg, (Array.getElem?_eq_some_iff.1 hg).1, hn, hm, fun j => by simp [World.frozen?, hg]⟩
end Go.Proofs.Ytccbbecfmfldbaa
