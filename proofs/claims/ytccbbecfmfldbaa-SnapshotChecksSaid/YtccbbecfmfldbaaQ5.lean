import Derived.Test.YtccbbecfmfldbaaQ4
import Derived.Deep.AppendLies
import Derived.Deep.Onto
import Derived.Test.YtccbbecfmfldbaaQ1
set_option linter.unusedVariables false
set_option linter.unusedSimpArgs false
namespace Go.Mm
open Go.RowKit Sb

/-! ### append onto a row of the call's own, at a step of a region that draws its order -/
section
variable {e : TypeId} {k : Nat} {α : Type} {R : ERel α} {w w' : World} {base : Nat} {S T : Nat → Prop} {v : Value} {xs : List α}
theorem OwnSl.mono {base' : Nat} (h : OwnSl e k R w base S v xs) (hb : base' ≤ base) : OwnSl e k R w base' S v xs := by
  obtain ⟨c, o1, o2, o3, o4⟩ := h
  exact ⟨c, o1.mono hb, o2, o3, o4⟩
theorem ownSl_post [st : Steady R] {v' : Value} {cs : List Value} {x : α} {c : List (List Value)} (o1 : w.ownsRow base e k v xs.length c.flatten) (o2 : c.length = xs.length) (o3 : ∀ cs ∈ c, cs.length = k)
    (o4 : ∀ (j : Nat) (cs : List Value) (x : α), c[j]? = some cs → xs[j]? = some x → R w (fun b => S b ∧ some b ≠ v.ownBlock) cs x)
    (hown' : w'.ownsRow base e k v' (xs.length + 1) (c.flatten ++ cs)) (hl : cs.length = k) (hR : R w (fun b => S b ∧ some b ≠ v.ownBlock) cs x)
    (hg : w.grownBy w' v.ownBlock) (hat : v'.ownBlock = v.ownBlock ∨ v'.ownBlock = some w.heap.size) : OwnSl e k R w' base S v' (xs ++ [x]) := by
  refine ⟨c ++ [cs], by simpa using hown', by simp [o2], ?_, ?_⟩
  · intro cs' hc
    rcases List.mem_append.1 hc with hc | hc
    · exact o3 _ hc
    · obtain rfl := List.mem_singleton.1 hc; exact hl
  · have hkeep : ∀ {cs' : List Value} {x' : α}, R w (fun b => S b ∧ some b ≠ v.ownBlock) cs' x' → R w' (fun b => S b ∧ some b ≠ v'.ownBlock) cs' x' := by
      intro cs' x' hr
      have h1 := st.more hr (T := fun b => (S b ∧ some b ≠ v.ownBlock) ∧ b < w.heap.size) fun b hb hh => ⟨hh, hb⟩
      have h2 := st.keep h1 (w' := w') fun b hb ⟨⟨_, hh⟩, _⟩ => hg.block b hb hh
      refine st.more h2 fun b hb ⟨⟨ha, hh⟩, hlt⟩ => ⟨ha, ?_⟩
      rcases hat with hat | hat
      · rw [hat]; exact hh
      · rw [hat]; intro e; injection e with e; omega
    intro j cs' x' hj hx'
    by_cases hjl : j < xs.length
    · rw [List.getElem?_append_left hjl] at hx'
      rw [List.getElem?_append_left (by omega)] at hj
      exact hkeep (o4 j cs' x' hj hx')
    · rw [List.getElem?_append_right (by omega)] at hx'
      rw [List.getElem?_append_right (by omega)] at hj
      have e1 : j - xs.length = 0 := by
        have := (List.getElem?_eq_some_iff.1 hx').1; simp at this; omega
      rw [o2, e1] at hj
      rw [e1] at hx'
      simp at hj hx'
      subst hj; subst hx'
      exact hkeep hR

theorem step_appendNew {P : Program} {ops : Array Oper} {o : Oper} {a : Act} {K : Act → World → Prop} {Q : Exit → Act → World → Prop} {E : Prop} (hgd : o.guard = none) (s y : Operand) (t : TypeId)
    (ho : o.op = .call { callee := .builtin .append, args := #[s, y], argTypes := #[t, t] })
    (e : TypeId) (z : Value) (k bytes : Nat) (ht : P.underlying t = some (.slice e)) (hinfo : (P.info? e).map (fun i => (i.zero, i.size, i.bytes)) = some (some z, k, bytes)) (hzs : z.cells.size = k) (hsz : 0 < k)
    (R : ERel α) [st : Steady R] (base : Nat) (S : Nat → Prop) (v : Value) (xs : List α) (hs : a.eval s = v) (hown : OwnSl e k R w base S v xs)
    (cs : Array Value) (x : α) (H : Nat) (hH : w.heap.size = H) (hx : a.eval y = .slice (some ⟨H, 0, none⟩) 1 1) (hl : cs.size = k) (h1 : ∀ u ∈ cs.toList, u.oneCell' = true)
    (hR : R w (fun b => S b ∧ some b ≠ v.ownBlock) cs.toList x) (hbytes : (xs.length + 1) * bytes ≤ 140737488355328) (hb0 : 0 < bytes) (hbase : base ≤ w.heap.size)
    (h : ∀ v' w', OwnSl e k R w' base S v' (xs ++ [x]) → w.grownBy w' v.ownBlock → (v'.ownBlock = v.ownBlock ∨ ∃ g, v'.ownBlock = some g ∧ w.heap.size ≤ g) → K (a.put o.dst v') w') :
    if Region.wanted o (yielded ops a.tmps) = true then Oper.wp P o a (w.alloc (.cells cs e)) K Q else E := by
  subst hH
  obtain ⟨i0, hi, hzz⟩ := Option.map_eq_some_iff.1 hinfo
  simp only [Prod.mk.injEq] at hzz
  obtain ⟨hz0, hz1, hz2⟩ := hzz
  have hb : Below w.heap.size w (w.alloc (.cells cs e)) := (Below.refl _ _).alloc (Nat.le_refl _) _
  have hA := hown.alloc (.cells cs e)
  obtain ⟨c, o1, o2, o3, o4⟩ := hA
  have hlen : xs.length + 1 ≤ 140737488355328 := Nat.le_trans (Nat.le_mul_of_pos_right _ hb0) hbytes
  have hRA : R (w.alloc (.cells cs e)) (fun b => S b ∧ some b ≠ v.ownBlock) cs.toList x := st.keep hR fun b hlt _ => hb.block b hlt
  refine step_append_lies _ hgd s y t ho base e i0 z k bytes ht hi hz0 hz1 hz2 hzs hsz v xs.length c.flatten hs o1 ⟨w.heap.size, 0, none⟩ 1 1 cs.toList hx (by simpa using hl) ?_ h1 (by omega) (by unfold maxLen; omega) hbytes (by simp; omega) (w.alloc (.cells cs e)).heap.size rfl ?_
  · exact World.news_of_block (cs := cs) (t := e) (fr := (0, 0)) (heap_alloc_new w _)
  · intro g cap w' hown' hg hat hlt
    have hat' : (Value.slice (some ⟨g, 0, none⟩) (xs.length + 1) cap).ownBlock = v.ownBlock ∨ (Value.slice (some ⟨g, 0, none⟩) (xs.length + 1) cap).ownBlock = some (w.alloc (.cells cs e)).heap.size := by
      rcases hat with hat | hat
      · exact .inl hat.symm
      · exact .inr (by rw [hat]; rfl)
    refine h _ w' (ownSl_post o1 o2 o3 o4 hown' (by simpa using hl) hRA hg hat') ?_ ?_
    · exact ⟨hg.os, hg.tape, hg.output, Nat.le_trans (by simp) hg.size, fun i hi hne => (hg.block i (by simp; omega) hne).trans (Below.heap_alloc w _ i hi)⟩
    · rcases hat' with h4 | h4
      · exact .inl h4
      · exact .inr ⟨_, h4, by simp⟩
end
end Go.Mm

set_option linter.unusedVariables false
namespace Sb

/-! ### snapshots -/
structure Snap where
  num : Int
  time : Int
  saved : List Wr
structure Snaps where
  cur : List (List Sec)
  items : List Snap
end Sb
