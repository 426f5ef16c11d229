import Derived.WalkKit
import Derived.WalkSpells
import Derived.WalkLawsBesides
import Derived.Outline
import Derived.Below
import Derived.KernelRfl
import Derived.Deep.LoopGhost
import Derived.Lib.Hide
import Derived.OwnWalk
import Derived.Laws.MakeOwn
import Derived.Laws.OwnMore
import Derived.Deep.Draws
set_option linter.unusedVariables false
namespace Go.Mm
open Go.RowKit

/-! ### reading: elements of k cells, behind a slice -/
/-- How the cells of an element read: the world, the blocks through which it may be read, the cells, what they say. -/
abbrev ERel (α : Type) := World → (Nat → Prop) → List Value → α → Prop

/-- What an element reads as stands as long as the blocks that it is read through stand. -/
class Steady {α : Type} (R : ERel α) : Prop where
  keep : ∀ {w w' : World} {S : Nat → Prop} {cs : List Value} {x : α}, R w S cs x → (∀ b, b < w.heap.size → S b → w'.heap[b]? = w.heap[b]?) → R w' S cs x
  more : ∀ {w : World} {S T : Nat → Prop} {cs : List Value} {x : α}, R w S cs x → (∀ b, b < w.heap.size → S b → T b) → R w T cs x

/-- A slice value reads as a list: its elements of k cells each lie in a block of S. -/
def RSl (k : Nat) {α : Type} (R : ERel α) (w : World) (S : Nat → Prop) (v : Value) (xs : List α) : Prop :=
  ∃ (A : Option Addr) (cap : Nat), v = .slice A xs.length cap ∧ xs.length ≤ cap ∧ cap ≤ maxLen ∧
    (0 < xs.length → ∃ b off, A = some ⟨b, off, none⟩ ∧ b < w.heap.size ∧ S b ∧ ∀ j x, xs[j]? = some x →
      ∃ cs : List Value, cs.length = k ∧ (∀ i, i < k → w.cell? ⟨b, off + j * k + i, none⟩ = cs[i]?) ∧ R w S cs x)

section
variable {k : Nat} {α : Type} {R : ERel α} {w w' : World} {S T : Nat → Prop} {v : Value} {xs : List α}
theorem RSl.keep [st : Steady R] (h : RSl k R w S v xs) (hw : ∀ b, b < w.heap.size → S b → w'.heap[b]? = w.heap[b]?) : RSl k R w' S v xs := by
  obtain ⟨A, cap, hv, h1, h2, h3⟩ := h
  refine ⟨A, cap, hv, h1, h2, fun h0 => ?_⟩
  obtain ⟨b, off, hA, hlt, hb, hx⟩ := h3 h0
  have hbk := hw b hlt hb
  refine ⟨b, off, hA, ?_, hb, fun j x hj => ?_⟩
  · have : w.heap[b]? ≠ none := by simp [hlt]
    rw [← hbk] at this
    have h4 := Array.getElem?_eq_none_iff (xs := w'.heap) (i := b)
    refine Nat.not_le.1 fun hh => this (h4.2 hh)
  · obtain ⟨cs, hl, hc, hr⟩ := hx j x hj
    exact ⟨cs, hl, fun i hi => (World.cell?_of_block (w := w) hbk).trans (hc i hi), st.keep hr hw⟩
theorem RSl.more [st : Steady R] (h : RSl k R w S v xs) (hw : ∀ b, b < w.heap.size → S b → T b) : RSl k R w T v xs := by
  obtain ⟨A, cap, hv, h1, h2, h3⟩ := h
  refine ⟨A, cap, hv, h1, h2, fun h0 => ?_⟩
  obtain ⟨b, off, hA, hlt, hb, hx⟩ := h3 h0
  exact ⟨b, off, hA, hlt, hw b hlt hb, fun j x hj => by
    obtain ⟨cs, hl, hc, hr⟩ := hx j x hj
    exact ⟨cs, hl, hc, st.more hr hw⟩⟩
theorem RSl.nil (w : World) (S : Nat → Prop) : RSl k R w S (.slice none 0 0) [] := ⟨none, 0, rfl, by simp, by simp, by simp⟩
theorem RSl.val (h : RSl k R w S v xs) : ∃ A cap, v = .slice A xs.length cap ∧ xs.length ≤ cap ∧ cap ≤ maxLen := by
  obtain ⟨A, cap, hv, h1, h2, _⟩ := h; exact ⟨A, cap, hv, h1, h2⟩
/-- The element at place j. -/
theorem RSl.at_ {A : Option Addr} {n cap : Nat} (h : RSl k R w S (.slice A n cap) xs) {j : Nat} {x : α} (hj : xs[j]? = some x) :
    ∃ b off cs, A = some ⟨b, off, none⟩ ∧ b < w.heap.size ∧ S b ∧ cs.length = k ∧ (∀ i, i < k → w.cell? ⟨b, off + j * k + i, none⟩ = cs[i]?) ∧ R w S cs x := by
  obtain ⟨A', cap', hv, h1, h2, h3⟩ := h
  have hlt : j < xs.length := (List.getElem?_eq_some_iff.1 hj).1
  obtain ⟨b, off, hA, hb, hs, hx⟩ := h3 (by omega)
  obtain ⟨cs, hl, hc, hr⟩ := hx j x hj
  injection hv with e1 e2 e3
  exact ⟨b, off, cs, by rw [e1, hA], hb, hs, hl, hc, hr⟩
theorem RSl.below [Steady R] (h : RSl k R w S v xs) (hb : Below w.heap.size w w') : RSl k R w' S v xs := h.keep fun b h1 _ => hb.block b h1
end
instance (k : Nat) {α : Type} (R : ERel α) [Steady R] : Steady (fun w S (cs : List Value) (xs : List α) => ∃ v, cs = [v] ∧ RSl k R w S v xs) where
  keep := fun ⟨v, e, h⟩ hw => ⟨v, e, h.keep hw⟩
  more := fun ⟨v, e, h⟩ hw => ⟨v, e, h.more hw⟩

/-! ### a block that is known whole -/
def Blk (w : World) (g : Nat) (t : TypeId) (cs : Array Value) : Prop := w.heap[g]? = some (.cells cs t (0, 0))
section
variable {w w' : World} {g : Nat} {t : TypeId} {cs : Array Value}
theorem Blk.lt (h : Blk w g t cs) : g < w.heap.size := by
  rcases Nat.lt_or_ge g w.heap.size with hlt | hge
  · exact hlt
  · unfold Blk at h; rw [Array.getElem?_eq_none hge] at h; cases h
theorem Blk.cell (h : Blk w g t cs) (i : Nat) : w.cell? ⟨g, i, none⟩ = cs[i]? := cell_of_row w g i cs t (0, 0) h
theorem Blk.frozen (h : Blk w g t cs) (i : Nat) : w.frozen? ⟨g, i, none⟩ = false := by
  unfold Blk at h
  simp [World.frozen?, h]
theorem Blk.new (w : World) (t : TypeId) (cs : Array Value) : Blk (w.alloc (.cells cs t)) w.heap.size t cs := heap_alloc_new w _
theorem Blk.drew (h : Blk w g t cs) : Blk w.drew g t cs := h
theorem Blk.drewN (h : Blk w g t cs) (n : Nat) : Blk (w.drewN n) g t cs := h
theorem Blk.alloc (h : Blk w g t cs) (o : Obj) : Blk (w.alloc o) g t cs := (Below.heap_alloc w o g h.lt).trans h
theorem Blk.set_ (h : Blk w g t cs) (i : Nat) (u : Value) : Blk (w.setCell ⟨g, i, none⟩ u) g t (cs.setIfInBounds i u) := by
  unfold Blk at h ⊢
  simp [World.setCell, Array.getElem?_modify, h]
theorem Blk.far (h : Blk w g t cs) {p : Addr} (hp : g ≠ p.block) (u : Value) : Blk (w.setCell p u) g t cs := (Below.heap_setCell w p u g hp).trans h
theorem Blk.below (h : Blk w g t cs) (hb : Below w.heap.size w w') : Blk w' g t cs := (hb.block g h.lt).trans h
theorem Blk.grown {row : Option Nat} (h : Blk w g t cs) (hb : w.grownBy w' row) (hg : some g ≠ row) : Blk w' g t cs := (hb.block g h.lt hg).trans h
theorem Blk.ne_ {g' : Nat} {t' : TypeId} {cs' : Array Value} (h : Blk w g t cs) (h' : Blk w g' t' cs') (hne : t ≠ t') : g ≠ g' := by
  rintro rfl
  unfold Blk at h h'
  rw [h] at h'
  injection h' with h'
  injection h' with _ ht
  exact hne ht
/-- Two cells, and none of them frozen. -/
theorem Blk.one {a : Value} (h : Blk w g t #[a]) : w.cell? ⟨g, 0, none⟩ = some a ∧ w.frozen? ⟨g, 0, none⟩ = false := ⟨h.cell 0, h.frozen 0⟩
theorem Blk.two {a b : Value} (h : Blk w g t #[a, b]) : w.cell? ⟨g, 0, none⟩ = some a ∧ w.cell? ⟨g, 1, none⟩ = some b ∧ w.frozen? ⟨g, 0, none⟩ = false ∧ w.frozen? ⟨g, 1, none⟩ = false := ⟨h.cell 0, h.cell 1, h.frozen 0, h.frozen 1⟩
theorem Blk.three {a b c : Value} (h : Blk w g t #[a, b, c]) : w.cell? ⟨g, 0, none⟩ = some a ∧ w.cell? ⟨g, 1, none⟩ = some b ∧ w.cell? ⟨g, 2, none⟩ = some c ∧ w.frozen? ⟨g, 0, none⟩ = false ∧ w.frozen? ⟨g, 1, none⟩ = false ∧ w.frozen? ⟨g, 2, none⟩ = false := ⟨h.cell 0, h.cell 1, h.cell 2, h.frozen 0, h.frozen 1, h.frozen 2⟩
end
theorem below_then {B : Nat} {w w1 w2 : World} (h : Below B w w1) (hB : B ≤ w1.heap.size) (k : Below w1.heap.size w1 w2) : Below B w w2 :=
  h.trans ⟨k.os, k.tape, k.output, k.size, fun i hi => k.block i (Nat.lt_of_lt_of_le hi hB)⟩
theorem below2 {w w1 w2 : World} (h : Below w.heap.size w w1) (k : Below w1.heap.size w1 w2) : Below w.heap.size w w2 := below_then h h.size k
theorem grown_below {w w1 : World} (h : Below w.heap.size w w1) (row : Option Nat) : w.grownBy w1 row := ⟨h.os, h.tape, h.output, h.size, fun i hi _ => h.block i hi⟩
theorem pw_cell_below {w w1 : World} (h : Below w.heap.size w w1) {a : Addr} {v : Value} (hc : w.cell? a = some v) : w1.cell? a = some v := (h.cell (World.block_lt_of_cell? w a hc)).trans hc
theorem grown_setCell (w : World) (p : Addr) (u : Value) : w.grownBy (w.setCell p u) (some p.block) :=
  ⟨rfl, rfl, rfl, by simp [World.setCell], fun i _ hi => Below.heap_setCell _ _ _ _ (fun e => hi (by rw [e]))⟩
theorem grown_drew (w : World) : w.grownBy w.drew none := ⟨rfl, rfl, rfl, Nat.le_refl _, fun _ _ _ => rfl⟩
theorem grown_drewN (w : World) (n : Nat) : w.grownBy (w.drewN n) none := ⟨rfl, rfl, rfl, Nat.le_refl _, fun _ _ _ => rfl⟩
end Go.Mm

set_option linter.unusedVariables false
namespace Sb

/-- The content of a sector: eight bytes. -/
structure Sec where
  (b0 b1 b2 b3 b4 b5 b6 b7 : Int)
deriving DecidableEq
def Sec.zero : Sec := ⟨0, 0, 0, 0, 0, 0, 0, 0⟩
structure Wr where
  vol : Int
  start : Int
  data : List Sec
deriving DecidableEq
structure Ext where
  start : Int
  count : Int
deriving DecidableEq

/-! ### extents -/
def Ext.has (e : Ext) (s : Int) : Bool := decide (e.start ≤ s) && decide (s < e.start + e.count)
def mem (l : List Ext) (s : Int) : Bool := l.any (·.has s)
theorem Ext.has_iff {e : Ext} {s : Int} : e.has s = true ↔ e.start ≤ s ∧ s < e.start + e.count := by simp [Ext.has]
theorem mem_nil (s : Int) : mem [] s = false := rfl
theorem mem_cons (e : Ext) (l : List Ext) (s : Int) : mem (e :: l) s = (e.has s || mem l s) := rfl
theorem mem_append (a b : List Ext) (s : Int) : mem (a ++ b) s = (mem a s || mem b s) := by simp [mem]

/-- A canonical list whose extents begin at lo or behind it. -/
def CanonE : Int → List Ext → Prop
  | _, [] => True
  | lo, e :: l => lo ≤ e.start ∧ 0 < e.count ∧ CanonE (e.start + e.count + 1) l

theorem CanonE.mono {lo lo' : Int} : ∀ {l : List Ext}, CanonE lo l → lo' ≤ lo → CanonE lo' l
  | [], _, _ => trivial
  | _ :: _, ⟨h1, h2, h3⟩, h => ⟨Int.le_trans h h1, h2, h3⟩

theorem CanonE.below {lo : Int} : ∀ {l : List Ext}, CanonE lo l → ∀ s, s < lo → mem l s = false
  | [], _, _, _ => rfl
  | e :: l, ⟨h1, h2, h3⟩, s, h => by
    rw [mem_cons, h3.below s (by omega)]
    simp [Ext.has]; omega

theorem canonE_unique : ∀ {lo : Int} {l l' : List Ext}, CanonE lo l → CanonE lo l' → (∀ s, mem l s = mem l' s) → l = l'
  | _, [], [], _, _, _ => rfl
  | _, [], e :: l, _, ⟨h1, h2, h3⟩, h => by
    have := h e.start
    rw [mem_nil, mem_cons] at this
    have he : e.has e.start = true := Ext.has_iff.2 ⟨by omega, by omega⟩
    simp [he] at this
  | _, e :: l, [], ⟨h1, h2, h3⟩, _, h => by
    have := h e.start
    rw [mem_nil, mem_cons] at this
    have he : e.has e.start = true := Ext.has_iff.2 ⟨by omega, by omega⟩
    simp [he] at this
  | lo, e :: l, e' :: l', ⟨h1, h2, h3⟩, ⟨h1', h2', h3'⟩, h => by
    have key : ∀ {e e' : Ext} {l l' : List Ext}, 0 < e.count → CanonE (e.start + e.count + 1) l → 0 < e'.count → CanonE (e'.start + e'.count + 1) l' → (∀ s, mem (e :: l) s = mem (e' :: l') s) → e'.start ≤ e.start ∧ (e.start = e'.start → e'.start + e'.count ≤ e.start + e.count) := by
      intro e e' l l' h2 h3 h2' h3' h
      constructor
      · refine Int.not_lt.1 fun hlt => ?_
        have := h e.start
        rw [mem_cons, mem_cons, h3'.below e.start (by omega)] at this
        have he : e.has e.start = true := Ext.has_iff.2 ⟨by omega, by omega⟩
        have he' : e'.has e.start = false := by simp [Ext.has]; omega
        simp [he, he'] at this
      · intro hs
        refine Int.not_lt.1 fun hlt => ?_
        have := h (e.start + e.count)
        rw [mem_cons, mem_cons, h3.below (e.start + e.count) (by omega)] at this
        have he : e.has (e.start + e.count) = false := by simp [Ext.has]
        have he' : e'.has (e.start + e.count) = true := Ext.has_iff.2 ⟨by omega, by omega⟩
        simp [he, he'] at this
    have k1 := key h2 h3 h2' h3' h
    have k2 := key h2' h3' h2 h3 (fun s => (h s).symm)
    have hs : e.start = e'.start := by omega
    have hc : e.count = e'.count := by have a := k1.2 hs; have b := k2.2 hs.symm; omega
    have hee : e = e' := by cases e; cases e'; simp_all
    subst hee
    refine congrArg (e :: ·) (canonE_unique h3 h3' fun s => ?_)
    have := h s
    rw [mem_cons, mem_cons] at this
    cases hb : e.has s with
    | false => simpa [hb] using this
    | true =>
      have hb' := Ext.has_iff.1 hb
      rw [h3.below s (by omega), h3'.below s (by omega)]

/-- The last extent gets one sector more. -/
def bump : List Ext → List Ext
  | [] => []
  | [e] => [⟨e.start, e.count + 1⟩]
  | e :: e' :: l => e :: bump (e' :: l)

/-- The canonical list of those of the sectors 0 to n - 1 that satisfy p. -/
def runsE (p : Int → Bool) : Nat → List Ext
  | 0 => []
  | n + 1 => if p n then (if n ≠ 0 ∧ p ((n : Int) - 1) = true then bump (runsE p n) else runsE p n ++ [⟨n, 1⟩]) else runsE p n

/-- All of a list ends at or ahead of hi. -/
def EndsBy (hi : Int) (l : List Ext) : Prop := ∀ e ∈ l, e.start + e.count ≤ hi

theorem CanonE.snoc : ∀ {lo : Int} {l : List Ext} {e : Ext}, CanonE lo l → lo ≤ e.start → 0 < e.count → (∀ x ∈ l, x.start + x.count < e.start) → CanonE lo (l ++ [e])
  | _, [], e, _, h1, h2, _ => ⟨h1, h2, trivial⟩
  | _, x :: l, e, ⟨h1, h2, h3⟩, _, h5, h6 => ⟨h1, h2, h3.snoc (by have := h6 x (by simp); omega) h5 (fun y hy => h6 y (by simp [hy]))⟩

theorem bump_snoc (e : Ext) : ∀ l : List Ext, bump (l ++ [e]) = l ++ [⟨e.start, e.count + 1⟩]
  | [] => rfl
  | [x] => rfl
  | x :: y :: l => by
    have := bump_snoc e (y :: l)
    simp only [List.cons_append] at this ⊢
    rw [bump, this]

theorem CanonE.init : ∀ {lo : Int} {l : List Ext} {e : Ext}, CanonE lo (l ++ [e]) → CanonE lo l ∧ lo ≤ e.start ∧ 0 < e.count ∧ ∀ x ∈ l, x.start + x.count < e.start
  | _, [], e, ⟨h1, h2, _⟩ => ⟨trivial, h1, h2, by simp⟩
  | _, x :: l, e, ⟨h1, h2, h3⟩ => by
    obtain ⟨a, b, c, d⟩ := h3.init
    refine ⟨⟨h1, h2, a⟩, by omega, c, fun y hy => ?_⟩
    rcases List.mem_cons.1 hy with rfl | hy
    · omega
    · exact d y hy

/-- What is known of runsE. -/
structure RunsE (p : Int → Bool) (n : Nat) (l : List Ext) : Prop where
  canon : CanonE 0 l
  mem : ∀ s, mem l s = (decide (0 ≤ s) && decide (s < n) && p s)
  ends : EndsBy n l
  last : n ≠ 0 → p ((n : Int) - 1) = true → ∃ (l' : List Ext) (e : Ext), l = l' ++ [e] ∧ e.start + e.count = (n : Int)
  open_ : (n = 0 ∨ p ((n : Int) - 1) = false) → ∀ e ∈ l, e.start + e.count < (n : Int)

theorem runsE_spec (p : Int → Bool) : ∀ n, RunsE p n (runsE p n)
  | 0 => ⟨trivial, fun s => by simp [runsE, Sb.mem]; omega, by simp [EndsBy, runsE], by simp, by simp [runsE]⟩
  | n + 1 => by
    have ih := runsE_spec p n
    unfold runsE
    by_cases hp : p n = true
    · rw [if_pos hp]
      by_cases hn : n ≠ 0 ∧ p ((n : Int) - 1) = true
      · rw [if_pos hn]
        obtain ⟨l', e, hl, he⟩ := ih.last hn.1 hn.2
        rw [hl, bump_snoc]
        rw [hl] at ih
        obtain ⟨c1, c2, c3, c4⟩ := ih.canon.init
        refine ⟨c1.snoc c2 (by simp; omega) c4, fun s => ?_, ?_, fun _ _ => ⟨_, _, rfl, by simp; omega⟩, fun h => ?_⟩
        · have := ih.mem s
          simp only [mem_append, mem_cons, mem_nil, Bool.or_false] at this ⊢
          by_cases hs : s = n
          · subst hs
            have : Ext.has ⟨e.start, e.count + 1⟩ n = true := Ext.has_iff.2 ⟨by simp; omega, by simp; omega⟩
            simp [this, hp]; omega
          · have hh : Ext.has ⟨e.start, e.count + 1⟩ s = e.has s := by
              rw [Bool.eq_iff_iff, Ext.has_iff, Ext.has_iff]; simp only; omega
            rw [hh, this]
            have : decide (s < ((n + 1 : Nat) : Int)) = decide (s < n) := by rw [Bool.eq_iff_iff]; simp; omega
            rw [this]
        · intro x hx
          rcases List.mem_append.1 hx with hx | hx
          · have := c4 x hx; omega
          · obtain rfl := List.mem_singleton.1 hx
            simp; omega
        · rcases h with h | h
          · omega
          · have : (((n + 1 : Nat) : Int) - 1) = n := by omega
            rw [this, hp] at h; cases h
      · rw [if_neg hn]
        have ho := ih.open_ (by
          by_cases h0 : n = 0
          · exact .inl h0
          · right
            cases hq : p ((n : Int) - 1)
            · rfl
            · exact absurd ⟨h0, hq⟩ hn)
        refine ⟨ih.canon.snoc (by simp) (by simp) (fun x hx => by simpa using ho x hx), fun s => ?_, ?_, fun _ _ => ⟨_, _, rfl, by simp⟩, fun h => ?_⟩
        · have := ih.mem s
          simp only [mem_append, mem_cons, mem_nil, Bool.or_false] at this ⊢
          rw [this]
          by_cases hs : s = n
          · subst hs
            have : Ext.has ⟨(n : Int), 1⟩ n = true := Ext.has_iff.2 ⟨by simp, by simp; omega⟩
            simp [this, hp]; omega
          · have hh : Ext.has ⟨(n : Int), 1⟩ s = false := by simp [Ext.has]; omega
            rw [hh]
            have : decide (s < ((n + 1 : Nat) : Int)) = decide (s < n) := by rw [Bool.eq_iff_iff]; simp; omega
            rw [this]; simp
        · intro x hx
          rcases List.mem_append.1 hx with hx | hx
          · have := ih.ends x hx; omega
          · obtain rfl := List.mem_singleton.1 hx
            simp
        · rcases h with h | h
          · omega
          · have : (((n + 1 : Nat) : Int) - 1) = n := by omega
            rw [this, hp] at h; cases h
    · rw [if_neg hp]
      have hpf : p n = false := by simpa using hp
      refine ⟨ih.canon, fun s => ?_, fun x hx => by have := ih.ends x hx; omega, fun _ h => ?_, fun _ x hx => by have := ih.ends x hx; omega⟩
      · rw [ih.mem s]
        by_cases hs : s = n
        · subst hs; simp [hpf]
        · have : decide (s < ((n + 1 : Nat) : Int)) = decide (s < n) := by rw [Bool.eq_iff_iff]; simp; omega
          rw [this]
      · have : (((n + 1 : Nat) : Int) - 1) = n := by omega
        rw [this, hpf] at h; cases h

/-- WHATEVER IS CANONICAL AND HAS THE SAME SECTORS IS runsE. -/
theorem runsE_eq {p : Int → Bool} {n : Nat} {l : List Ext} (hc : CanonE 0 l) (hm : ∀ s, mem l s = (decide (0 ≤ s) && decide (s < n) && p s)) : l = runsE p n :=
  canonE_unique hc (runsE_spec p n).canon fun s => (hm s).trans ((runsE_spec p n).mem s).symm

theorem runsE_congr {p q : Int → Bool} {n : Nat} (h : ∀ s : Int, 0 ≤ s → s < n → p s = q s) : runsE p n = runsE q n := by
  refine runsE_eq (runsE_spec p n).canon fun s => ?_
  rw [(runsE_spec p n).mem s]
  by_cases h0 : 0 ≤ s <;> by_cases h1 : s < n <;> simp [h0, h1]
  exact h s h0 h1
end Sb

set_option linter.unusedVariables false
namespace Sb

/-! ### writes and effects -/
def Wr.at? (w : Wr) (v s : Int) : Option Sec :=
  if w.vol = v ∧ w.start ≤ s ∧ s < w.start + w.data.length then some (w.data.getD (s - w.start).toNat Sec.zero) else none
/-- The effect of a list on a sector of a volume. -/
def eff : List Wr → Int → Int → Option Sec
  | [], _, _ => none
  | w :: l, v, s => (eff l v s).or (w.at? v s)
theorem eff_nil (v s : Int) : eff [] v s = none := rfl
theorem eff_cons (w : Wr) (l : List Wr) (v s : Int) : eff (w :: l) v s = (eff l v s).or (w.at? v s) := rfl
theorem eff_append (a b : List Wr) (v s : Int) : eff (a ++ b) v s = (eff b v s).or (eff a v s) := by
  induction a with
  | nil => simp [eff]
  | cons w a ih => rw [List.cons_append, eff_cons, ih, eff_cons, Option.or_assoc]
theorem eff_snoc (l : List Wr) (w : Wr) (v s : Int) : eff (l ++ [w]) v s = (w.at? v s).or (eff l v s) := by
  rw [eff_append]; simp [eff]

structure Placed (w : Wr) : Prop where
  v0 : 0 ≤ w.vol
  v8 : w.vol < 8
  ne : w.data ≠ []
  s0 : 0 ≤ w.start
  s4 : w.start + w.data.length ≤ 4096
def AllPlaced (l : List Wr) : Prop := ∀ w ∈ l, Placed w

def Behind (x w : Wr) : Prop := x.vol < w.vol ∨ (x.vol = w.vol ∧ x.start + x.data.length < w.start)
structure Canon (l : List Wr) : Prop where
  ne : ∀ w ∈ l, w.data ≠ []
  pw : l.Pairwise Behind
theorem Canon.nil : Canon [] := ⟨by simp, .nil⟩
theorem Canon.tail {w : Wr} {l : List Wr} (h : Canon (w :: l)) : Canon l := ⟨fun x hx => h.ne x (by simp [hx]), (List.pairwise_cons.1 h.pw).2⟩
theorem Canon.head {w : Wr} {l : List Wr} (h : Canon (w :: l)) : ∀ x ∈ l, Behind w x := (List.pairwise_cons.1 h.pw).1
theorem Canon.append {a b : List Wr} (ha : Canon a) (hb : Canon b) (h : ∀ x ∈ a, ∀ y ∈ b, Behind x y) : Canon (a ++ b) :=
  ⟨fun w hw => (List.mem_append.1 hw).elim (ha.ne w) (hb.ne w), List.pairwise_append.2 ⟨ha.pw, hb.pw, h⟩⟩

theorem at?_none_of {w : Wr} {v s : Int} (h : ¬ (w.vol = v ∧ w.start ≤ s ∧ s < w.start + w.data.length)) : w.at? v s = none := by
  unfold Wr.at?; rw [if_neg h]
theorem at?_some_of {w : Wr} {v s : Int} (h : w.vol = v ∧ w.start ≤ s ∧ s < w.start + w.data.length) : w.at? v s = some (w.data.getD (s - w.start).toNat Sec.zero) := by
  unfold Wr.at?; rw [if_pos h]
theorem at?_isSome {w : Wr} {v s : Int} : (w.at? v s).isSome = true ↔ w.vol = v ∧ w.start ≤ s ∧ s < w.start + w.data.length := by
  unfold Wr.at?; split <;> simp_all
theorem len_pos {w : Wr} (h : w.data ≠ []) : 0 < (w.data.length : Int) := by
  have := List.length_pos_iff.2 h; omega

/-- Where a write stands ahead of all of a list, the list has no effect. -/
theorem eff_none_of_behind {w : Wr} {l : List Wr} {v s : Int} (h : ∀ x ∈ l, Behind w x) (hv : v < w.vol ∨ (v = w.vol ∧ s ≤ w.start + w.data.length)) : eff l v s = none := by
  induction l with
  | nil => rfl
  | cons x l ih =>
    rw [eff_cons, ih (fun y hy => h y (by simp [hy])), at?_none_of, Option.or_none]
    have := h x (by simp)
    unfold Behind at this
    omega

/-- In a canonical list the first write that holds a sector is the only one. -/
theorem eff_canon_cons {w : Wr} {l : List Wr} (h : Canon (w :: l)) (v s : Int) : eff (w :: l) v s = if w.vol = v ∧ w.start ≤ s ∧ s < w.start + w.data.length then some (w.data.getD (s - w.start).toNat Sec.zero) else eff l v s := by
  rw [eff_cons]
  by_cases hc : w.vol = v ∧ w.start ≤ s ∧ s < w.start + w.data.length
  · rw [if_pos hc, at?_some_of hc, eff_none_of_behind h.head (by omega)]; rfl
  · rw [if_neg hc, at?_none_of hc, Option.or_none]

theorem eff_ahead {w : Wr} {l : List Wr} (h : Canon (w :: l)) {v s : Int} (hv : v < w.vol ∨ (v = w.vol ∧ s < w.start)) : eff (w :: l) v s = none := by
  rw [eff_canon_cons h, if_neg (by omega), eff_none_of_behind h.head (by omega)]

theorem canon_unique : ∀ {l l' : List Wr}, Canon l → Canon l' → (∀ v s, eff l v s = eff l' v s) → l = l'
  | [], [], _, _, _ => rfl
  | [], w :: l, _, h', h => by
    have := h w.vol w.start
    have hp := len_pos (h'.ne w (by simp))
    rw [eff_canon_cons h', if_pos (by omega), eff_nil] at this
    cases this
  | w :: l, [], h', _, h => by
    have := h w.vol w.start
    have hp := len_pos (h'.ne w (by simp))
    rw [eff_canon_cons h', if_pos (by omega), eff_nil] at this
    cases this
  | w :: l, w' :: l', hc, hc', h => by
    have hp := len_pos (hc.ne w (by simp))
    have hp' := len_pos (hc'.ne w' (by simp))
    have key : ∀ {w w' : Wr} {l l' : List Wr}, Canon (w :: l) → Canon (w' :: l') → 0 < (w.data.length : Int) → 0 < (w'.data.length : Int) → (∀ v s, eff (w :: l) v s = eff (w' :: l') v s) →
        ¬ (w.vol < w'.vol ∨ (w.vol = w'.vol ∧ w.start < w'.start)) ∧ (w.vol = w'.vol → w.start = w'.start → ¬ (w.data.length : Int) < w'.data.length) := by
      intro w w' l l' hc hc' hp hp' h
      constructor
      · intro hlt
        have := h w.vol w.start
        rw [eff_canon_cons hc, if_pos (by omega), eff_ahead hc' hlt] at this
        cases this
      · intro e1 e2 hlt
        have := h w.vol (w.start + w.data.length)
        rw [eff_canon_cons hc, if_neg (by omega), eff_none_of_behind hc.head (by omega), eff_canon_cons hc', if_pos (by omega)] at this
        cases this
    obtain ⟨k1, k2⟩ := key hc hc' hp hp' h
    obtain ⟨k3, k4⟩ := key hc' hc hp' hp (fun v s => (h v s).symm)
    have e1 : w.vol = w'.vol := by omega
    have e2 : w.start = w'.start := by omega
    have e3 : w.data.length = w'.data.length := by have := k2 e1 e2; have := k4 e1.symm e2.symm; omega
    have e4 : w.data = w'.data := by
      refine List.ext_getElem e3 fun i h1 h2 => ?_
      have := h w.vol (w.start + i)
      rw [eff_canon_cons hc, if_pos (by omega), eff_canon_cons hc', if_pos (by omega)] at this
      have ei : (w.start + i - w.start).toNat = i := by omega
      have ei' : (w.start + i - w'.start).toNat = i := by omega
      rw [ei, ei'] at this
      simpa [List.getD_eq_getElem?_getD, h1, h2] using this
    have e5 : w = w' := by cases w; cases w'; simp_all
    subst e5
    refine congrArg (w :: ·) (canon_unique hc.tail hc'.tail fun v s => ?_)
    have := h v s
    rw [eff_canon_cons hc, eff_canon_cons hc'] at this
    by_cases hh : w.vol = v ∧ w.start ≤ s ∧ s < w.start + w.data.length
    · rw [eff_none_of_behind hc.head (by omega), eff_none_of_behind hc'.head (by omega)]
    · rwa [if_neg hh, if_neg hh] at this

/-! ### the canonical list of an effect -/
/-- The content of an extent. -/
def pick1 (f : Int → Int → Option Sec) (v : Int) (e : Ext) : Wr := ⟨v, e.start, (List.range e.count.toNat).map fun k => (f v (e.start + (k : Nat))).getD Sec.zero⟩
def pickW (f : Int → Int → Option Sec) (v : Int) (l : List Ext) : List Wr := l.map (pick1 f v)
theorem pick1_len (f : Int → Int → Option Sec) (v : Int) (e : Ext) (h : 0 < e.count) : ((pick1 f v e).data.length : Int) = e.count := by simp [pick1]; omega
theorem pick1_at (f : Int → Int → Option Sec) (v : Int) (e : Ext) (h : 0 < e.count) (v' s : Int) : (pick1 f v e).at? v' s = if v' = v ∧ e.has s = true then some ((f v s).getD Sec.zero) else none := by
  have hl := pick1_len f v e h
  unfold Wr.at?
  rw [hl]
  have e1 : (pick1 f v e).vol = v := rfl
  have e2 : (pick1 f v e).start = e.start := rfl
  rw [e1, e2]
  by_cases hc : v = v' ∧ e.start ≤ s ∧ s < e.start + e.count
  · rw [if_pos hc, if_pos ⟨hc.1.symm, Ext.has_iff.2 hc.2⟩]
    have : (s - e.start).toNat < e.count.toNat := by omega
    have e3 : max (s - e.start) 0 = s - e.start := by omega
    have e4 : e.start + (s - e.start) = s := by omega
    simp [pick1, List.getD_eq_getElem?_getD, this, e3, e4]
  · rw [if_neg hc, if_neg]
    rintro ⟨h1, h2⟩
    exact hc ⟨h1.symm, Ext.has_iff.1 h2⟩

theorem pickW_eff (f : Int → Int → Option Sec) (v : Int) : ∀ {lo : Int} {l : List Ext}, CanonE lo l → ∀ v' s, eff (pickW f v l) v' s = if v' = v ∧ mem l s = true then some ((f v s).getD Sec.zero) else none
  | _, [], _, v', s => by simp [pickW, eff, mem]
  | _, e :: l, ⟨h1, h2, h3⟩, v', s => by
    have ih := pickW_eff f v h3 v' s
    show eff (pick1 f v e :: pickW f v l) v' s = _
    rw [eff_cons, ih, pick1_at f v e h2, mem_cons]
    by_cases hv : v' = v
    · cases hb : e.has s <;> cases hm : mem l s <;> simp [hv]
    · simp [hv]

theorem pickW_canon (f : Int → Int → Option Sec) (v : Int) : ∀ {lo : Int} {l : List Ext}, CanonE lo l → Canon (pickW f v l) ∧ ∀ w ∈ pickW f v l, w.vol = v ∧ lo ≤ w.start
  | _, [], _ => ⟨.nil, by simp [pickW]⟩
  | lo, e :: l, ⟨h1, h2, h3⟩ => by
    obtain ⟨ih1, ih2⟩ := pickW_canon f v h3
    have hl := pick1_len f v e h2
    refine ⟨⟨?_, List.pairwise_cons.2 ⟨fun x hx => ?_, ih1.pw⟩⟩, ?_⟩
    · intro w hw
      rcases List.mem_cons.1 hw with rfl | hw
      · intro h; rw [h] at hl; simp at hl; omega
      · exact ih1.ne w hw
    · obtain ⟨a, b⟩ := ih2 x hx
      refine .inr ⟨a.symm, ?_⟩
      rw [hl]
      show e.start + e.count < x.start
      omega
    · intro w hw
      rcases List.mem_cons.1 hw with rfl | hw
      · exact ⟨rfl, h1⟩
      · have := ih2 w hw; exact ⟨this.1, by omega⟩

/-- Volume by volume. -/
def canonV (f : Int → Int → Option Sec) (v : Int) : List Wr := pickW f v (runsE (fun s => (f v s).isSome) 4096)
def canonOf (f : Int → Int → Option Sec) : List Wr := (List.range 8).flatMap fun v => canonV f (v : Nat)
def InDom (v s : Int) : Prop := 0 ≤ v ∧ v < 8 ∧ 0 ≤ s ∧ s < 4096
instance (v s : Int) : Decidable (InDom v s) := by unfold InDom; infer_instance

theorem canonV_eff (f : Int → Int → Option Sec) (v v' s : Int) : eff (canonV f v) v' s = if v' = v ∧ 0 ≤ s ∧ s < 4096 then f v s else none := by
  unfold canonV
  rw [pickW_eff f v (runsE_spec _ 4096).canon, (runsE_spec _ 4096).mem]
  by_cases hv : v' = v <;> by_cases h0 : 0 ≤ s <;> by_cases h1 : s < 4096 <;> simp [hv, h0, h1] <;> cases f v s <;> simp

theorem flat_canon (f : Int → Int → Option Sec) : ∀ n : Nat, Canon ((List.range n).flatMap fun v => canonV f (v : Nat)) ∧ (∀ w ∈ (List.range n).flatMap fun v => canonV f (v : Nat), w.vol < n) ∧
    ∀ v s, eff ((List.range n).flatMap fun v => canonV f (v : Nat)) v s = if 0 ≤ v ∧ v < n ∧ 0 ≤ s ∧ s < 4096 then f v s else none
  | 0 => ⟨.nil, by simp, fun v s => by simp [eff]; omega⟩
  | n + 1 => by
    obtain ⟨i1, i2, i3⟩ := flat_canon f n
    obtain ⟨c1, c2⟩ := pickW_canon f n (runsE_spec (fun s => (f n s).isSome) 4096).canon
    rw [List.range_succ, List.flatMap_append]
    simp only [List.flatMap_cons, List.flatMap_nil, List.append_nil]
    refine ⟨i1.append c1 fun x hx y hy => .inl ?_, fun w hw => ?_, fun v s => ?_⟩
    · rw [(c2 y hy).1]; exact i2 x hx
    · rcases List.mem_append.1 hw with hw | hw
      · have := i2 w hw; omega
      · have := (c2 w hw).1; omega
    · rw [eff_append, canonV_eff, i3]
      by_cases hv : v = n
      · subst hv
        rw [if_neg (c := 0 ≤ (n : Int) ∧ (n : Int) < n ∧ 0 ≤ s ∧ s < 4096) (by omega), Option.or_none]
        by_cases h : 0 ≤ s ∧ s < 4096
        · rw [if_pos ⟨rfl, h⟩, if_pos ⟨by omega, by omega, h⟩]
        · rw [if_neg (by simp; omega), if_neg (by omega)]
      · rw [if_neg (by simp [hv]), Option.none_or]
        by_cases h : 0 ≤ v ∧ v < n ∧ 0 ≤ s ∧ s < 4096
        · rw [if_pos h, if_pos (by omega)]
        · rw [if_neg h, if_neg (by omega)]

theorem canonOf_canon (f : Int → Int → Option Sec) : Canon (canonOf f) := (flat_canon f 8).1
theorem canonOf_eff (f : Int → Int → Option Sec) (v s : Int) : eff (canonOf f) v s = if InDom v s then f v s else none := (flat_canon f 8).2.2 v s

/-- The effect lies within the volumes and sectors that there may be. -/
def Bounded (f : Int → Int → Option Sec) : Prop := ∀ v s, ¬ InDom v s → f v s = none
theorem canonOf_eff' {f : Int → Int → Option Sec} (h : Bounded f) : eff (canonOf f) = f := by
  funext v s
  rw [canonOf_eff]
  split
  · rfl
  · rw [h v s ‹_›]
/-- WHATEVER IS CANONICAL AND HAS THIS EFFECT IS THIS LIST. -/
theorem canonOf_eq {f : Int → Int → Option Sec} (h : Bounded f) {l : List Wr} (hc : Canon l) (he : ∀ v s, eff l v s = f v s) : l = canonOf f :=
  canon_unique hc (canonOf_canon f) fun v s => by rw [he, canonOf_eff' h]
theorem eff_bounded {l : List Wr} (h : AllPlaced l) : Bounded (eff l) := by
  intro v s hd
  induction l with
  | nil => rfl
  | cons w l ih =>
    have hw := h w (by simp)
    rw [eff_cons, ih (fun x hx => h x (by simp [hx])), at?_none_of, Option.or_none]
    have := hw.v0; have := hw.v8; have := hw.s0; have := hw.s4
    unfold InDom at hd
    omega
/-- A canonical list of a bounded effect is placed. -/
theorem canon_placed {l : List Wr} (hc : Canon l) (hb : Bounded (eff l)) : AllPlaced l := by
  induction l with
  | nil => intro w hw; simp at hw
  | cons w l ih =>
    have hp := len_pos (hc.ne w (by simp))
    have hat : ∀ s, w.start ≤ s → s < w.start + w.data.length → InDom w.vol s := by
      intro s h1 h2
      refine Decidable.byContradiction fun hn => ?_
      have := hb w.vol s hn
      rw [eff_canon_cons hc, if_pos ⟨rfl, h1, h2⟩] at this
      cases this
    have a := hat w.start (by omega) (by omega)
    have b := hat (w.start + w.data.length - 1) (by omega) (by omega)
    unfold InDom at a b
    intro x hx
    rcases List.mem_cons.1 hx with rfl | hx
    · exact ⟨a.1, a.2.1, hc.ne _ (by simp), a.2.2.1, by omega⟩
    · refine ih hc.tail (fun v s hd => ?_) x hx
      have := hb v s hd
      rw [eff_cons] at this
      exact (Option.or_eq_none_iff.1 this).1

def foldW (l : List Wr) : List Wr := canonOf (eff l)
theorem foldW_canon (l : List Wr) : Canon (foldW l) := canonOf_canon _
theorem foldW_eff {l : List Wr} (h : AllPlaced l) : eff (foldW l) = eff l := canonOf_eff' (eff_bounded h)
theorem foldW_placed {l : List Wr} (h : AllPlaced l) : AllPlaced (foldW l) :=
  canon_placed (foldW_canon l) (by rw [foldW_eff h]; exact eff_bounded h)
theorem foldW_id {l : List Wr} (hc : Canon l) (h : AllPlaced l) : foldW l = l := (canonOf_eq (eff_bounded h) hc fun _ _ => rfl).symm
end Sb

set_option linter.unusedVariables false
namespace Sb

/-! ### the program's own way: sorted places, one after another -/
abbrev SLoc := Int × Int
def LocLt (a b : SLoc) : Prop := a.1 < b.1 ∨ (a.1 = b.1 ∧ a.2 < b.2)
/-- The last write gets a sector more. -/
def grow (s : Sec) : List Wr → List Wr
  | [] => []
  | [w] => [⟨w.vol, w.start, w.data ++ [s]⟩]
  | w :: w' :: l => w :: grow s (w' :: l)
theorem grow_snoc (s : Sec) (w : Wr) : ∀ l : List Wr, grow s (l ++ [w]) = l ++ [⟨w.vol, w.start, w.data ++ [s]⟩]
  | [] => rfl
  | [x] => rfl
  | x :: y :: l => by
    have := grow_snoc s w (y :: l)
    simp only [List.cons_append] at this ⊢
    rw [grow, this]
def gval (f : Int → Int → Option Sec) (p : SLoc) : Sec := (f p.1 p.2).getD Sec.zero
def groupStep (f : Int → Int → Option Sec) (st : List Wr × SLoc) (p : SLoc) : List Wr × SLoc :=
  (grow (gval f p) (if p = st.2 then st.1 else st.1 ++ [⟨p.1, p.2, []⟩]), (p.1, p.2 + 1))
def group (f : Int → Int → Option Sec) (l : List SLoc) : List Wr × SLoc := l.foldl (groupStep f) ([], (-1, 0))
theorem group_snoc (f : Int → Int → Option Sec) (l : List SLoc) (p : SLoc) : group f (l ++ [p]) = groupStep f (group f l) p := by simp [group]

theorem grow_length (s : Sec) : ∀ l : List Wr, (grow s l).length = l.length
  | [] => rfl
  | [_] => rfl
  | _ :: y :: l => by have := grow_length s (y :: l); simp only [grow, List.length_cons] at this ⊢; omega
theorem foldl_length (f : Int → Int → Option Sec) : ∀ (l : List SLoc) (st : List Wr × SLoc), (l.foldl (groupStep f) st).1.length ≤ st.1.length + l.length
  | [], st => by simp
  | p :: l, st => by
    have := foldl_length f l (groupStep f st p)
    have h2 : (groupStep f st p).1.length ≤ st.1.length + 1 := by
      unfold groupStep
      simp only [grow_length]
      split <;> simp
    simp only [List.foldl_cons, List.length_cons]; omega
theorem group_length (f : Int → Int → Option Sec) (l : List SLoc) : (group f l).1.length ≤ l.length := by
  have := foldl_length f l ([], (-1, 0)); simpa [group] using this
structure GroupInv (f : Int → Int → Option Sec) (pre : List SLoc) (out : List Wr) (next : SLoc) : Prop where
  canon : Canon out
  eff : ∀ v s, eff out v s = if (v, s) ∈ pre then some (gval f (v, s)) else none
  first : pre = [] → out = [] ∧ next = (-1, 0)
  last : pre ≠ [] → ∃ (out' : List Wr) (w : Wr), out = out' ++ [w] ∧ w.vol = next.1 ∧ w.start + w.data.length = next.2 ∧ (next.1, next.2 - 1) ∈ pre

theorem Behind.trans_new {x w : Wr} {p : SLoc} (hx : Behind x w) (hne : w.data ≠ []) (h : w.vol < p.1 ∨ (w.vol = p.1 ∧ w.start + w.data.length < p.2)) : x.vol < p.1 ∨ (x.vol = p.1 ∧ x.start + x.data.length < p.2) := by
  have := len_pos hne
  unfold Behind at hx
  omega

theorem at?_snoc (w : Wr) (y : Sec) (v s : Int) : Wr.at? ⟨w.vol, w.start, w.data ++ [y]⟩ v s = if v = w.vol ∧ s = w.start + w.data.length then some y else w.at? v s := by
  have hl : ((w.data ++ [y]).length : Int) = w.data.length + 1 := by simp
  unfold Wr.at?
  simp only [hl]
  by_cases h : v = w.vol ∧ s = w.start + w.data.length
  · rw [if_pos h, if_pos (by omega)]
    have : (s - w.start).toNat = w.data.length := by omega
    simp [this, List.getD_eq_getElem?_getD]
  · rw [if_neg h]
    by_cases h2 : w.vol = v ∧ w.start ≤ s ∧ s < w.start + w.data.length
    · rw [if_pos h2, if_pos (by omega)]
      have : (s - w.start).toNat < w.data.length := by omega
      simp [List.getD_eq_getElem?_getD, List.getElem?_append, this]
    · rw [if_neg h2, if_neg (by omega)]

theorem gi_step {f : Int → Int → Option Sec} {pre : List SLoc} {out : List Wr} {next : SLoc} (h : GroupInv f pre out next) {p : SLoc} (hp : ∀ q ∈ pre, LocLt q p) (h0 : 0 ≤ p.1) :
    GroupInv f (pre ++ [p]) (groupStep f (out, next) p).1 (groupStep f (out, next) p).2 := by
  obtain ⟨pv, ps⟩ := p
  have hmem : ∀ v s, (v, s) ∈ pre ++ [(pv, ps)] ↔ ((v, s) ∈ pre ∨ (v = pv ∧ s = ps)) := by intro v s; simp
  have hnew : (pv, ps) ∉ pre := fun hh => by have := hp _ hh; unfold LocLt at this; simp only at this; omega
  by_cases hpre : pre = []
  · obtain ⟨rfl, rfl⟩ := h.first hpre
    subst hpre
    have hne : (pv, ps) ≠ ((-1, 0) : SLoc) := by intro he; injection he with e1 e2; simp only at h0; omega
    simp only [groupStep, hne, if_false, List.nil_append, grow]
    refine ⟨⟨by simp, by simp⟩, fun v s => ?_, by simp, fun _ => ⟨[], _, rfl, rfl, by simp, by simp⟩⟩
    have := at?_snoc ⟨pv, ps, []⟩ (gval f (pv, ps)) v s
    simp only [List.nil_append, List.length_nil, List.mem_singleton, Prod.mk.injEq, Sb.eff, Option.none_or] at this ⊢
    rw [this]
    by_cases hc : v = pv ∧ s = ps
    · rw [if_pos (by omega), if_pos hc, hc.1, hc.2]
    · rw [if_neg (by omega), if_neg hc, at?_none_of (by simp)]
  · obtain ⟨out', w, rfl, e1, e2, e3⟩ := h.last hpre
    have hwne : w.data ≠ [] := h.canon.ne w (by simp)
    have hlw := len_pos hwne
    have hlt := hp _ e3
    unfold LocLt at hlt
    simp only at hlt
    have hpw := h.canon.pw
    rw [List.pairwise_append] at hpw
    by_cases hn : (pv, ps) = next
    · subst hn
      simp only at e1 e2
      simp only [groupStep, if_true, grow_snoc]
      refine ⟨⟨?_, ?_⟩, fun v s => ?_, by simp, fun _ => ⟨out', _, rfl, e1, by simp; omega, by simp⟩⟩
      · intro x hx
        rcases List.mem_append.1 hx with hx | hx
        · exact h.canon.ne x (by simp [hx])
        · obtain rfl := List.mem_singleton.1 hx; simp
      · rw [List.pairwise_append]
        refine ⟨hpw.1, by simp, fun x hx y hy => ?_⟩
        obtain rfl := List.mem_singleton.1 hy
        exact hpw.2.2 x hx w (by simp)
      · have := h.eff v s
        rw [eff_snoc] at this
        rw [eff_snoc, at?_snoc]
        by_cases hc : v = w.vol ∧ s = w.start + w.data.length
        · have hv : v = pv := by omega
          have hs : s = ps := by omega
          subst hv; subst hs
          rw [if_pos hc, if_pos (by simp)]; rfl
        · rw [if_neg hc, this]
          have : ((v, s) ∈ pre ++ [(pv, ps)]) ↔ (v, s) ∈ pre := by rw [hmem]; exact ⟨fun hh => hh.elim id (fun hh => absurd hh (by omega)), .inl⟩
          simp only [this]
    · have hb : w.vol < pv ∨ (w.vol = pv ∧ w.start + w.data.length < ps) := by
        have : ¬ (pv = next.1 ∧ ps = next.2) := fun hh => hn (by rw [hh.1, hh.2])
        omega
      simp only [groupStep, hn, if_false, grow_snoc, List.nil_append]
      refine ⟨⟨?_, ?_⟩, fun v s => ?_, by simp, fun _ => ⟨out' ++ [w], _, rfl, rfl, by simp, by simp⟩⟩
      · intro x hx
        rcases List.mem_append.1 hx with hx | hx
        · exact h.canon.ne x hx
        · obtain rfl := List.mem_singleton.1 hx; simp
      · rw [List.pairwise_append]
        refine ⟨h.canon.pw, by simp, fun x hx y hy => ?_⟩
        obtain rfl := List.mem_singleton.1 hy
        rcases List.mem_append.1 hx with hx | hx
        · exact (hpw.2.2 x hx w (by simp)).trans_new (p := (pv, ps)) hwne hb
        · obtain rfl := List.mem_singleton.1 hx; exact hb
      · rw [eff_snoc, h.eff]
        have := at?_snoc ⟨pv, ps, []⟩ (gval f (pv, ps)) v s
        simp only [List.nil_append, List.length_nil] at this
        rw [this]
        by_cases hc : v = pv ∧ s = ps
        · rw [if_pos (by omega), if_pos ((hmem v s).2 (.inr hc)), hc.1, hc.2]; rfl
        · rw [if_neg (by omega), at?_none_of (by simp only [List.length_nil]; omega), Option.none_or]
          have : ((v, s) ∈ pre ++ [(pv, ps)]) ↔ (v, s) ∈ pre := by rw [hmem]; exact ⟨fun hh => hh.elim id (fun hh => absurd hh hc), .inl⟩
          simp only [this]

theorem gi_all {f : Int → Int → Option Sec} : ∀ (l pre : List SLoc) (st : List Wr × SLoc), GroupInv f pre st.1 st.2 → (pre ++ l).Pairwise LocLt → (∀ p ∈ l, 0 ≤ p.1) →
    GroupInv f (pre ++ l) (l.foldl (groupStep f) st).1 (l.foldl (groupStep f) st).2
  | [], pre, st, h, _, _ => by simpa using h
  | p :: l, pre, st, h, hs, h0 => by
    have hs' : (pre ++ [p] ++ l).Pairwise LocLt := by simpa using hs
    have h1 := gi_step h (p := p) (fun q hq => (List.pairwise_append.1 hs).2.2 q hq p (by simp)) (h0 p (by simp))
    have := gi_all l (pre ++ [p]) (groupStep f st p) h1 hs' (fun q hq => h0 q (by simp [hq]))
    simpa using this

theorem group_inv (f : Int → Int → Option Sec) (l : List SLoc) (hs : l.Pairwise LocLt) (h0 : ∀ p ∈ l, 0 ≤ p.1) : GroupInv f l (group f l).1 (group f l).2 :=
  gi_all l [] ([], (-1, 0)) ⟨.nil, fun v s => by simp [Sb.eff], fun _ => ⟨rfl, rfl⟩, fun h => absurd rfl h⟩ (by simpa using hs) h0

theorem group_eq {f : Int → Int → Option Sec} (hb : Bounded f) {l : List SLoc} (hs : l.Pairwise LocLt) (hm : ∀ v s, (v, s) ∈ l ↔ (f v s).isSome = true) : (group f l).1 = canonOf f := by
  have h0 : ∀ p ∈ l, 0 ≤ p.1 := by
    intro p hp
    have := (hm p.1 p.2).1 hp
    by_cases hd : InDom p.1 p.2
    · exact hd.1
    · rw [hb _ _ hd] at this; cases this
  have hi := group_inv f l hs h0
  refine canonOf_eq hb hi.canon fun v s => ?_
  rw [hi.eff]
  have := hm v s
  cases hf : f v s with
  | none => rw [hf] at this; rw [if_neg]; intro hh; have := this.1 hh; simp at this
  | some x => rw [hf] at this; rw [if_pos (this.2 rfl)]; simp [gval, hf]
theorem nodup_len {α : Type} [DecidableEq α] : ∀ {a b : List α}, a.Nodup → (∀ x ∈ a, x ∈ b) → a.length ≤ b.length
  | [], _, _, _ => by simp
  | x :: a, b, hn, hs => by
    obtain ⟨h1, h2⟩ := List.nodup_cons.1 hn
    have hx := hs x (by simp)
    have := nodup_len (b := b.erase x) h2 fun y hy => (List.mem_erase_of_ne (show y ≠ x from fun e => h1 (e ▸ hy))).2 (hs y (by simp [hy]))
    rw [List.length_erase_of_mem hx] at this
    have := List.length_pos_of_mem hx
    simp; omega
theorem sorted_lt {l : List SLoc} (hn : l.Nodup) (hs : l.Pairwise fun x y => ¬ LocLt y x) : l.Pairwise LocLt := by
  refine List.Pairwise.imp_of_mem ?_ (List.pairwise_and_iff.2 ⟨hs, hn⟩)
  intro a b _ _ ⟨h1, h2⟩
  unfold LocLt at *
  by_cases h3 : a.1 = b.1
  · have : a.2 ≠ b.2 := fun e => h2 (Prod.ext h3 e)
    omega
  · omega
end Sb
