import Derived.WalkKit
import Derived.WalkSpells
import Derived.WalkLawsBesides
import Derived.Outline
import Derived.Below
import Derived.KernelRfl
import Derived.Deep.LoopGhost
import Derived.Lib.Hide
import Derived.OwnWalk
import Derived.Laws.MakeOwn
import Derived.Laws.OwnMore
import Derived.Deep.Draws
set_option linter.unusedVariables false
namespace Go.Mm
open Go.RowKit

/-! ### reading: elements of k cells, behind a slice -/
/-- How the cells of an element read: the world, the blocks through which it may be read, the cells, what they say. -/
abbrev ERel (α : Type) := World → (Nat → Prop) → List Value → α → Prop

/-- What an element reads as stands as long as the blocks that it is read through stand. -/
class Steady {α : Type} (R : ERel α) : Prop where
  keep : ∀ {w w' : World} {S : Nat → Prop} {cs : List Value} {x : α}, R w S cs x → (∀ b, b < w.heap.size → S b → w'.heap[b]? = w.heap[b]?) → R w' S cs x
  more : ∀ {w : World} {S T : Nat → Prop} {cs : List Value} {x : α}, R w S cs x → (∀ b, b < w.heap.size → S b → T b) → R w T cs x

/-- A slice value reads as a list: its elements of k cells each lie in a block of S. -/
def RSl (k : Nat) {α : Type} (R : ERel α) (w : World) (S : Nat → Prop) (v : Value) (xs : List α) : Prop :=
  ∃ (A : Option Addr) (cap : Nat), v = .slice A xs.length cap ∧ xs.length ≤ cap ∧ cap ≤ maxLen ∧
    (0 < xs.length → ∃ b off, A = some ⟨b, off, none⟩ ∧ b < w.heap.size ∧ S b ∧ ∀ j x, xs[j]? = some x →
      ∃ cs : List Value, cs.length = k ∧ (∀ i, i < k → w.cell? ⟨b, off + j * k + i, none⟩ = cs[i]?) ∧ R w S cs x)

section
variable {k : Nat} {α : Type} {R : ERel α} {w w' : World} {S T : Nat → Prop} {v : Value} {xs : List α}
theorem RSl.keep [st : Steady R] (h : RSl k R w S v xs) (hw : ∀ b, b < w.heap.size → S b → w'.heap[b]? = w.heap[b]?) : RSl k R w' S v xs := by
  obtain ⟨A, cap, hv, h1, h2, h3⟩ := h
  refine ⟨A, cap, hv, h1, h2, fun h0 => ?_⟩
  obtain ⟨b, off, hA, hlt, hb, hx⟩ := h3 h0
  have hbk := hw b hlt hb
  refine ⟨b, off, hA, ?_, hb, fun j x hj => ?_⟩
  · have : w.heap[b]? ≠ none := by simp [hlt]
    rw [← hbk] at this
    have h4 := Array.getElem?_eq_none_iff (xs := w'.heap) (i := b)
    refine Nat.not_le.1 fun hh => this (h4.2 hh)
  · obtain ⟨cs, hl, hc, hr⟩ := hx j x hj
    exact ⟨cs, hl, fun i hi => (World.cell?_of_block (w := w) hbk).trans (hc i hi), st.keep hr hw⟩
theorem RSl.more [st : Steady R] (h : RSl k R w S v xs) (hw : ∀ b, b < w.heap.size → S b → T b) : RSl k R w T v xs := by
  obtain ⟨A, cap, hv, h1, h2, h3⟩ := h
  refine ⟨A, cap, hv, h1, h2, fun h0 => ?_⟩
  obtain ⟨b, off, hA, hlt, hb, hx⟩ := h3 h0
  exact ⟨b, off, hA, hlt, hw b hlt hb, fun j x hj => by
    obtain ⟨cs, hl, hc, hr⟩ := hx j x hj
    exact ⟨cs, hl, hc, st.more hr hw⟩⟩
theorem RSl.nil (w : World) (S : Nat → Prop) : RSl k R w S (.slice none 0 0) [] := ⟨none, 0, rfl, by simp, by simp, by simp⟩
theorem RSl.val (h : RSl k R w S v xs) : ∃ A cap, v = .slice A xs.length cap ∧ xs.length ≤ cap ∧ cap ≤ maxLen := by
  obtain ⟨A, cap, hv, h1, h2, _⟩ := h; exact ⟨A, cap, hv, h1, h2⟩
/-- The element at place j. -/
theorem RSl.at_ {A : Option Addr} {n cap : Nat} (h : RSl k R w S (.slice A n cap) xs) {j : Nat} {x : α} (hj : xs[j]? = some x) :
    ∃ b off cs, A = some ⟨b, off, none⟩ ∧ b < w.heap.size ∧ S b ∧ cs.length = k ∧ (∀ i, i < k → w.cell? ⟨b, off + j * k + i, none⟩ = cs[i]?) ∧ R w S cs x := by
  obtain ⟨A', cap', hv, h1, h2, h3⟩ := h
  have hlt : j < xs.length := (List.getElem?_eq_some_iff.1 hj).1
  obtain ⟨b, off, hA, hb, hs, hx⟩ := h3 (by omega)
  obtain ⟨cs, hl, hc, hr⟩ := hx j x hj
  injection hv with e1 e2 e3
  exact ⟨b, off, cs, by rw [e1, hA], hb, hs, hl, hc, hr⟩
theorem RSl.below [Steady R] (h : RSl k R w S v xs) (hb : Below w.heap.size w w') : RSl k R w' S v xs := h.keep fun b h1 _ => hb.block b h1
end
instance (k : Nat) {α : Type} (R : ERel α) [Steady R] : Steady (fun w S (cs : List Value) (xs : List α) => ∃ v, cs = [v] ∧ RSl k R w S v xs) where
  keep := fun ⟨v, e, h⟩ hw => ⟨v, e, h.keep hw⟩
  more := fun ⟨v, e, h⟩ hw => ⟨v, e, h.more hw⟩

/-! ### a block that is known whole -/
def Blk (w : World) (g : Nat) (t : TypeId) (cs : Array Value) : Prop := w.heap[g]? = some (.cells cs t (0, 0))
section
variable {w w' : World} {g : Nat} {t : TypeId} {cs : Array Value}
theorem Blk.lt (h : Blk w g t cs) : g < w.heap.size := by
  rcases Nat.lt_or_ge g w.heap.size with hlt | hge
  · exact hlt
  · unfold Blk at h; rw [Array.getElem?_eq_none hge] at h; cases h
theorem Blk.cell (h : Blk w g t cs) (i : Nat) : w.cell? ⟨g, i, none⟩ = cs[i]? := cell_of_row w g i cs t (0, 0) h
theorem Blk.frozen (h : Blk w g t cs) (i : Nat) : w.frozen? ⟨g, i, none⟩ = false := by
  unfold Blk at h
  simp [World.frozen?, h]
theorem Blk.new (w : World) (t : TypeId) (cs : Array Value) : Blk (w.alloc (.cells cs t)) w.heap.size t cs := heap_alloc_new w _
theorem Blk.drew (h : Blk w g t cs) : Blk w.drew g t cs := h
theorem Blk.drewN (h : Blk w g t cs) (n : Nat) : Blk (w.drewN n) g t cs := h
theorem Blk.alloc (h : Blk w g t cs) (o : Obj) : Blk (w.alloc o) g t cs := (Below.heap_alloc w o g h.lt).trans h
theorem Blk.set_ (h : Blk w g t cs) (i : Nat) (u : Value) : Blk (w.setCell ⟨g, i, none⟩ u) g t (cs.setIfInBounds i u) := by
  unfold Blk at h ⊢
  simp [World.setCell, Array.getElem?_modify, h]
theorem Blk.far (h : Blk w g t cs) {p : Addr} (hp : g ≠ p.block) (u : Value) : Blk (w.setCell p u) g t cs := (Below.heap_setCell w p u g hp).trans h
theorem Blk.below (h : Blk w g t cs) (hb : Below w.heap.size w w') : Blk w' g t cs := (hb.block g h.lt).trans h
theorem Blk.grown {row : Option Nat} (h : Blk w g t cs) (hb : w.grownBy w' row) (hg : some g ≠ row) : Blk w' g t cs := (hb.block g h.lt hg).trans h
theorem Blk.ne_ {g' : Nat} {t' : TypeId} {cs' : Array Value} (h : Blk w g t cs) (h' : Blk w g' t' cs') (hne : t ≠ t') : g ≠ g' := by
  rintro rfl
  unfold Blk at h h'
  rw [h] at h'
  injection h' with h'
  injection h' with _ ht
  exact hne ht
/-- Two cells, and none of them frozen. -/
theorem Blk.one {a : Value} (h : Blk w g t #[a]) : w.cell? ⟨g, 0, none⟩ = some a ∧ w.frozen? ⟨g, 0, none⟩ = false := ⟨h.cell 0, h.frozen 0⟩
theorem Blk.two {a b : Value} (h : Blk w g t #[a, b]) : w.cell? ⟨g, 0, none⟩ = some a ∧ w.cell? ⟨g, 1, none⟩ = some b ∧ w.frozen? ⟨g, 0, none⟩ = false ∧ w.frozen? ⟨g, 1, none⟩ = false := ⟨h.cell 0, h.cell 1, h.frozen 0, h.frozen 1⟩
theorem Blk.three {a b c : Value} (h : Blk w g t #[a, b, c]) : w.cell? ⟨g, 0, none⟩ = some a ∧ w.cell? ⟨g, 1, none⟩ = some b ∧ w.cell? ⟨g, 2, none⟩ = some c ∧ w.frozen? ⟨g, 0, none⟩ = false ∧ w.frozen? ⟨g, 1, none⟩ = false ∧ w.frozen? ⟨g, 2, none⟩ = false := ⟨h.cell 0, h.cell 1, h.cell 2, h.frozen 0, h.frozen 1, h.frozen 2⟩
end
theorem below_then {B : Nat} {w w1 w2 : World} (h : Below B w w1) (hB : B ≤ w1.heap.size) (k : Below w1.heap.size w1 w2) : Below B w w2 :=
  h.trans ⟨k.os, k.tape, k.output, k.size, fun i hi => k.block i (Nat.lt_of_lt_of_le hi hB)⟩
theorem below2 {w w1 w2 : World} (h : Below w.heap.size w w1) (k : Below w1.heap.size w1 w2) : Below w.heap.size w w2 := below_then h h.size k
theorem grown_below {w w1 : World} (h : Below w.heap.size w w1) (row : Option Nat) : w.grownBy w1 row := ⟨h.os, h.tape, h.output, h.size, fun i hi _ => h.block i hi⟩
theorem pw_cell_below {w w1 : World} (h : Below w.heap.size w w1) {a : Addr} {v : Value} (hc : w.cell? a = some v) : w1.cell? a = some v := (h.cell (World.block_lt_of_cell? w a hc)).trans hc
theorem grown_setCell (w : World) (p : Addr) (u : Value) : w.grownBy (w.setCell p u) (some p.block) :=
  ⟨rfl, rfl, rfl, by simp [World.setCell], fun i _ hi => Below.heap_setCell _ _ _ _ (fun e => hi (by rw [e]))⟩
theorem grown_drew (w : World) : w.grownBy w.drew none := ⟨rfl, rfl, rfl, Nat.le_refl _, fun _ _ _ => rfl⟩
theorem grown_drewN (w : World) (n : Nat) : w.grownBy (w.drewN n) none := ⟨rfl, rfl, rfl, Nat.le_refl _, fun _ _ _ => rfl⟩
end Go.Mm
