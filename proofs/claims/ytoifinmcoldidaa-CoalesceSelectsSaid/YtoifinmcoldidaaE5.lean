import Derived.Test.YtoifinmcoldidaaE3
import Derived.Maps.OwnIn
import Derived.RangeFuncNested
import Derived.RangeFuncBound
import Derived.RangeFuncCalls
import Derived.RangeFuncLeaves
import Derived.Shelf.Abstract
import Derived.Shelf.RegionOpen
import Derived.WalkKit
import Derived.OwnWalkIn
import Derived.TacticsInMore
import Derived.LoopNIn
import Derived.LoopIn
set_option maxRecDepth 100000
set_option linter.unusedVariables false
set_option linter.unusedSimpArgs false
namespace Go.Proofs.Ytoifinmcoldidaa
open Go.RowKit Go.Mm Sb
attribute [local go_sem] Oper.semAt_some

/-! ### AppendSeq -/
def encX2 (x : Ext) : List Value := [.int .i64 x.start, .int .i64 x.count]
theorem infoX2 : (Try.prog.info? 68).map (fun i => (i.zero, i.size, i.bytes)) = some (some (.agg #[.int .i64 0, .int .i64 0]), 2, 16) := by kernel_rfl
/-- What the loop's own cells hold: the box of the list under way. -/
def InvX (n₀ B : Nat) (w : World) (pre : List Ext) (W : World) : Prop :=
  (∃ v, Blk W B 42 #[v] ∧ OwnSl 68 2 (RPure encX2) W n₀ (fun _ => False) v pre) ∧ Below n₀ w W ∧ n₀ ≤ W.heap.size
theorem stands_blk {g : Nat} {t : TypeId} {cs : Array Value} (ht : t = 68 ∨ t = 42) {A B : World} {row : Option Nat} (h : Blk A g t cs) (hg : A.grownBy B row) (hr : ∀ r, row = some r → ∃ o : Obj, A.heap[r]? = some o ∧ NotX o) : Blk B g t cs := by
  refine Blk.grown h hg (fun e => ?_)
  obtain ⟨o, ho, hn⟩ := hr g e.symm
  have h' := h
  unfold Blk at h'
  rw [h'] at ho
  injection ho with ho
  obtain ⟨n1, n2⟩ := hn cs t (0, 0) ho.symm
  rcases ht with rfl | rfl
  · exact n1 rfl
  · exact n2 rfl
theorem invX_stands (n₀ B B0 : Nat) (w : World) (hB0 : n₀ ≤ B0) : StandsX B0 (InvX n₀ B w) := by
  rintro pre A C row ⟨⟨v, hb, ho⟩, hbel, hsz⟩ hg hr
  have hr' := fun r e => (hr r e).2
  refine ⟨⟨v, stands_blk (.inr rfl) hb hg hr', ?_⟩, hbel.grown hg hsz (fun r e => by have := (hr r e).1; omega), by have := hg.size; omega⟩
  obtain ⟨c, hrow⟩ := ho.row
  refine ho.kept hg ?_ (fun _ _ h => h.elim)
  cases hq : v.ownBlock with
  | none => exact .inl rfl
  | some g =>
    refine .inr fun e => ?_
    obtain ⟨o, h1, h2⟩ := hr' g e.symm
    rcases hrow.2 with ⟨hv, _⟩ | ⟨g', cap, cur, hv, _, hcur, _⟩
    · subst hv; cases hq
    · subst hv
      injection hq with hq
      simp only at hq
      subst hq
      rw [hcur] at h1
      injection h1 with h1
      exact (h2 cur 68 (0, 0) h1.symm).1 rfl
theorem kpx_alloc {n₀ : Nat} (W : World) (o : Obj) (h : n₀ ≤ W.heap.size) : KpX n₀ W (W.alloc o) :=
  ⟨(Below.refl _ _).alloc h o, by simp, fun b cs t fr hb _ _ => Below.heap_alloc W o b (Array.getElem?_eq_some_iff.1 hb).1⟩
theorem kpx_grown {n₀ : Nat} {W W' : World} {row : Option Nat} (hg : W.grownBy W' row) (h : n₀ ≤ W.heap.size) (hr : ∀ r, row = some r → n₀ ≤ r ∧ ∃ cs t fr, W.heap[r]? = some (Obj.cells cs t fr) ∧ (t = 68 ∨ t = 42)) : KpX n₀ W W' := by
  refine ⟨(Below.refl n₀ W).grown hg h (fun r e => (hr r e).1), hg.size, fun b cs t fr hb t1 t2 => hg.block b (Array.getElem?_eq_some_iff.1 hb).1 (fun e => ?_)⟩
  obtain ⟨_, cs', t', fr', h2, h3⟩ := hr b e.symm
  rw [hb] at h2
  injection h2 with h2
  injection h2 with _ h2 _
  subst h2
  rcases h3 with h3 | h3
  · exact t1 h3
  · exact t2 h3
theorem ko_grown {W W' : World} {row : Option Nat} (hg : W.grownBy W' row) (hr : ∀ r, row = some r → ∃ cs t fr, W.heap[r]? = some (Obj.cells cs t fr)) : KeepsOthers W W' :=
  ⟨hg.size, fun k o hk ho => by
    rw [hg.block k (Array.getElem?_eq_some_iff.1 hk).1 (fun e => by
      obtain ⟨cs, t, fr, h2⟩ := hr k e.symm
      rw [hk] at h2
      injection h2 with h2
      subst h2
      simp [Obj.isCells] at ho)]
    exact hk⟩
theorem own_row_type {e : TypeId} {k : Nat} {α : Type} {R : ERel α} {w : World} {base : Nat} {S : Nat → Prop} {v : Value} {xs : List α} (h : OwnSl e k R w base S v xs) : ∀ r, v.ownBlock = some r → base ≤ r ∧ ∃ cs fr, w.heap[r]? = some (Obj.cells cs e fr) := fun r hr => by
  obtain ⟨c, hrow⟩ := h.row
  rcases hrow.2 with ⟨hv, _⟩ | ⟨g', cap, cur, hv, hb, hcur, _⟩
  · subst hv; cases hr
  · subst hv
    injection hr with hr
    simp only at hr
    subst hr
    exact ⟨hb, cur, (0, 0), hcur⟩
/-- append of one extent, in a round. -/
theorem wpListIn_appendX {F : Fence} {nF : Nat} {ops : Array Oper} {rest : List Oper} {o : Oper} {a : Act} {Q : Exit → Act → World → Prop} {w : World} (hgd : o.guard = none) (s y : Operand)
    (ho : o.op = .call { callee := .builtin .append, args := #[s, y], argTypes := #[42, 42] }) (base : Nat) (v : Value) (xs : List Ext) (hs : a.eval s = v) (hown : OwnSl 68 2 (RPure encX2) w base (fun _ => False) v xs)
    (x : Ext) (hx : a.eval y = .slice (some ⟨w.heap.size, 0, none⟩) 1 1) (hlen : xs.length ≤ 100000000) (hbase : base ≤ w.heap.size)
    (h : ∀ v' w', OwnSl 68 2 (RPure encX2) w' base (fun _ => False) v' (xs ++ [x]) → (w.alloc (.cells #[.int .i64 x.start, .int .i64 x.count] 68)).grownBy w' v.ownBlock → wpListIn F nF Try.prog ops Q rest (a.put o.dst v') w') :
    wpListIn F nF Try.prog ops Q (o :: rest) a (w.alloc (.cells #[.int .i64 x.start, .int .i64 x.count] 68)) := by
  obtain ⟨i0, hi, hz0, hz1, hz2⟩ := info_parts infoX2
  have hown' := hown.alloc (.cells #[.int .i64 x.start, .int .i64 x.count] 68)
  obtain ⟨c, o1, o2, o3, o4⟩ := hown'
  refine wpListIn_append_own_at _ hgd s y 42 ho base 68 i0 _ 2 16 Try.underlying42 hi hz0 hz1 hz2 rfl (by omega) v xs.length c.flatten hs o1 ⟨w.heap.size, 0, none⟩ 1 1 (encX2 x) hx rfl ?_ (by intro u hu; simp [encX2] at hu; rcases hu with rfl | rfl <;> rfl) (by unfold maxLen; omega) (by omega) (by simp; omega) ?_
  · exact World.news_of_block (cs := #[.int .i64 x.start, .int .i64 x.count]) (t := 68) (fr := (0, 0)) (heap_alloc_new w _)
  · intro v' w' hown2 hg _ _
    refine h v' w' ⟨c ++ [encX2 x], by simpa using hown2, by simp [o2], ?_, ?_⟩ hg
    · intro cs hc
      rcases List.mem_append.1 hc with hc | hc
      · exact o3 _ hc
      · obtain rfl := List.mem_singleton.1 hc; rfl
    · intro j cs y hj hy
      by_cases hjl : j < xs.length
      · rw [List.getElem?_append_left hjl] at hy
        rw [List.getElem?_append_left (by omega)] at hj
        exact o4 j cs y hj hy
      · rw [List.getElem?_append_right (by omega)] at hy
        rw [List.getElem?_append_right (by omega)] at hj
        have e1 : j - xs.length = 0 := by
          have := (List.getElem?_eq_some_iff.1 hy).1; simp at this; omega
        rw [o2, e1] at hj
        rw [e1] at hy
        simp at hj hy
        subst hj; subst hy
        rfl
end Go.Proofs.Ytoifinmcoldidaa
