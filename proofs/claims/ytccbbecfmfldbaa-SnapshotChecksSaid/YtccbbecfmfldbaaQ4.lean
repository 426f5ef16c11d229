import Derived.Test.YtccbbecfmfldbaaQ3
import Derived.Maps.AppendAt
import Derived.Deep.AppendLies
import Derived.Laws.MakeOwn
set_option linter.unusedVariables false
set_option linter.unusedSimpArgs false
namespace Go.Mm
open Go.RowKit

/-! ### a slice that the call itself has made: its row, and its elements, read through other blocks -/
def OwnSl (e : TypeId) (k : Nat) {α : Type} (R : ERel α) (w : World) (base : Nat) (S : Nat → Prop) (v : Value) (xs : List α) : Prop :=
  ∃ cells : List (List Value), w.ownsRow base e k v xs.length cells.flatten ∧ cells.length = xs.length ∧ (∀ cs ∈ cells, cs.length = k) ∧
    ∀ (j : Nat) (cs : List Value) (x : α), cells[j]? = some cs → xs[j]? = some x → R w (fun b => S b ∧ some b ≠ v.ownBlock) cs x

theorem flatten_get {k : Nat} : ∀ {cells : List (List Value)} (h : ∀ cs ∈ cells, cs.length = k) {j : Nat} {cs : List Value} (hj : cells[j]? = some cs) (i : Nat), i < k → cells.flatten[j * k + i]? = cs[i]?
  | [], _, _, _, hj, _, _ => by simp at hj
  | c :: cells, h, 0, cs, hj, i, hi => by
    simp at hj; subst hj
    have := h c (by simp)
    simp [List.getElem?_append, this, hi]
  | c :: cells, h, j + 1, cs, hj, i, hi => by
    have hc := h c (by simp)
    have := flatten_get (fun x hx => h x (List.mem_cons_of_mem _ hx)) (by simpa using hj) i hi
    rw [List.flatten_cons, List.getElem?_append_right (by rw [hc, Nat.add_mul]; omega), hc, ← this]
    congr 1
    rw [Nat.add_mul]; omega
theorem flatten_len {k : Nat} : ∀ {cells : List (List Value)} (h : ∀ cs ∈ cells, cs.length = k), cells.flatten.length = cells.length * k
  | [], _ => by simp
  | c :: cells, h => by
    rw [List.flatten_cons, List.length_append, h c (by simp), flatten_len (fun x hx => h x (by simp [hx])), List.length_cons, Nat.add_mul]; omega

section
variable {e : TypeId} {k : Nat} {α : Type} {R : ERel α} {w w' : World} {base : Nat} {S T : Nat → Prop} {v : Value} {xs : List α}
theorem OwnSl.nil (w : World) : OwnSl e k R w base S (.slice none 0 0) [] := ⟨[], World.ownsRow_nil w base e k, rfl, by simp, by simp⟩
theorem OwnSl.row (h : OwnSl e k R w base S v xs) : ∃ cells : List (List Value), w.ownsRow base e k v xs.length cells.flatten := by obtain ⟨c, h, _⟩ := h; exact ⟨c, h⟩
theorem OwnSl.lt (h : OwnSl e k R w base S v xs) : ∀ g, v.ownBlock = some g → base ≤ g ∧ g < w.heap.size := by obtain ⟨c, h, _⟩ := h; exact h.lt
theorem OwnSl.val (h : OwnSl e k R w base S v xs) : ∃ A cap, v = .slice A xs.length cap ∧ xs.length ≤ cap ∧ cap ≤ maxLen := by
  obtain ⟨c, h, _⟩ := h
  rcases h.2 with ⟨rfl, h0⟩ | ⟨g, cap, cur, rfl, _, _, h1, h2, _⟩
  · exact ⟨none, 0, by rw [h0], by omega, by simp⟩
  · exact ⟨_, cap, rfl, h1, h2⟩
theorem OwnSl.more [st : Steady R] (h : OwnSl e k R w base S v xs) (hT : ∀ b, b < w.heap.size → S b → T b) : OwnSl e k R w base T v xs := by
  obtain ⟨c, h1, h2, h3, h4⟩ := h
  exact ⟨c, h1, h2, h3, fun j cs x hj hx => st.more (h4 j cs x hj hx) fun b hb ⟨ha, hb'⟩ => ⟨hT b hb ha, hb'⟩⟩
/-- Blocks turn, none of them the row's, none of those through which the elements are read. -/
theorem OwnSl.kept [st : Steady R] {row : Option Nat} (h : OwnSl e k R w base S v xs) (hg : w.grownBy w' row) (hne : v.ownBlock = none ∨ v.ownBlock ≠ row) (hS : ∀ b, b < w.heap.size → S b → some b ≠ v.ownBlock → some b ≠ row) : OwnSl e k R w' base S v xs := by
  obtain ⟨c, h1, h2, h3, h4⟩ := h
  exact ⟨c, h1.kept hg hne, h2, h3, fun j cs x hj hx => st.keep (h4 j cs x hj hx) fun b hb ⟨ha, hb'⟩ => hg.block b hb (hS b hb ha hb')⟩
theorem OwnSl.below [Steady R] (h : OwnSl e k R w base S v xs) (hb : Below w.heap.size w w') : OwnSl e k R w' base S v xs :=
  h.kept (row := none) (grown_below hb none) (by cases v.ownBlock <;> simp) (fun b _ _ _ => by simp)
theorem OwnSl.alloc [Steady R] (h : OwnSl e k R w base S v xs) (o : Obj) : OwnSl e k R (w.alloc o) base S v xs := h.below ((Below.refl _ _).alloc (Nat.le_refl _) o)
theorem OwnSl.drew [st : Steady R] (h : OwnSl e k R w base S v xs) : OwnSl e k R w.drew base S v xs := h.below (below_drew' (Below.refl _ _))
  where below_drew' {B : Nat} {a w : World} (h : Below B a w) : Below B a w.drew := h.drew

/-- As a slice that is read. -/
theorem OwnSl.reads [st : Steady R] (h : OwnSl e k R w base S v xs) (hT : ∀ b, b < w.heap.size → (S b ∨ some b = v.ownBlock) → T b) : RSl k R w T v xs := by
  obtain ⟨c, h1, h2, h3, h4⟩ := h
  rcases h1.2 with ⟨rfl, h0⟩ | ⟨g, cap, cur, rfl, hbg, hg, hn, hm, hcs, htake⟩
  · obtain rfl : xs = [] := List.eq_nil_of_length_eq_zero h0
    exact RSl.nil _ _
  · refine ⟨_, cap, rfl, hn, hm, fun h0 => ⟨g, 0, rfl, (Array.getElem?_eq_some_iff.1 hg).1, hT g (Array.getElem?_eq_some_iff.1 hg).1 (.inr rfl), fun j x hj => ?_⟩⟩
    have hjl : j < c.length := by rw [h2]; exact (List.getElem?_eq_some_iff.1 hj).1
    have hcj := List.getElem?_eq_getElem hjl
    refine ⟨c[j], h3 _ (List.getElem_mem hjl), fun i hi => ?_, st.more (h4 j _ x hcj hj) fun b hb ⟨ha, _⟩ => hT b hb (.inl ha)⟩
    rw [← flatten_get h3 hcj i hi]
    have hlt : j * k + i < c.flatten.length := by
      rw [flatten_len h3]
      have : (j + 1) * k ≤ c.length * k := Nat.mul_le_mul_right _ hjl
      rw [Nat.add_mul] at this; omega
    have := h1.cells (g := g) rfl (j * k + i) _ (List.getElem?_eq_getElem hlt)
    have e1 : (⟨g, 0, none⟩ : Addr).add (j * k + i) = ⟨g, 0 + j * k + i, none⟩ := by unfold Addr.add; split <;> simp_all
    rw [e1] at this
    rw [this, List.getElem?_eq_getElem hlt]

/-- append(v, x) at the operation; x's cells lie in a block of their own at ad. -/
theorem wpList_appendSl {P : Program} {ops : Array Oper} {rest : List Oper} {o : Oper} {a : Act} {Q : Exit → Act → World → Prop} (hgd : o.guard = none) (s y : Operand) (t : TypeId)
    (ho : o.op = .call { callee := .builtin .append, args := #[s, y], argTypes := #[t, t] })
    (e : TypeId) (z : Value) (k bytes : Nat) (ht : P.underlying t = some (.slice e)) (hinfo : (P.info? e).map (fun i => (i.zero, i.size, i.bytes)) = some (some z, k, bytes)) (hzs : z.cells.size = k) (hsz : 0 < k)
    (R : ERel α) [st : Steady R] (base : Nat) (S : Nat → Prop) (v : Value) (xs : List α) (hs : a.eval s = v) (hown : OwnSl e k R w base S v xs)
    (ad : Addr) (cs : List Value) (x : α) (hx : a.eval y = .slice (some ad) 1 1) (hl : cs.length = k) (hcs : ∀ j u, cs[j]? = some u → w.cell? (ad.add j) = some u) (h1 : ∀ u ∈ cs, u.oneCell' = true)
    (hR : R w (fun b => S b ∧ some b ≠ v.ownBlock) cs x) (hbytes : (xs.length + 1) * bytes ≤ 140737488355328) (hb0 : 0 < bytes) (hbase : base ≤ w.heap.size)
    (h : ∀ v' w', OwnSl e k R w' base S v' (xs ++ [x]) → w.grownBy w' v.ownBlock → (v'.ownBlock = v.ownBlock ∨ v'.ownBlock = some w.heap.size) → wpList P ops Q rest (a.put o.dst v') w') :
    wpList P ops Q (o :: rest) a w := by
  obtain ⟨i0, hi, hzz⟩ := Option.map_eq_some_iff.1 hinfo
  simp only [Prod.mk.injEq] at hzz
  obtain ⟨hz0, hz1, hz2⟩ := hzz
  obtain ⟨c, o1, o2, o3, o4⟩ := hown
  have hlen : xs.length + 1 ≤ 140737488355328 := Nat.le_trans (Nat.le_mul_of_pos_right _ hb0) hbytes
  refine wpList_append_own_at w hgd s y t ho base e i0 z k bytes ht hi hz0 hz1 hz2 hzs hsz v xs.length c.flatten hs o1 ad 1 1 cs hx (by simpa using hl) hcs h1 (by unfold maxLen; omega) hbytes hbase ?_
  intro v' w' hown' hg _ hat
  refine h v' w' ⟨c ++ [cs], by simpa using hown', by simp [o2], ?_, ?_⟩ hg hat
  · intro cs' hc
    rcases List.mem_append.1 hc with hc | hc
    · exact o3 _ hc
    · obtain rfl := List.mem_singleton.1 hc; exact hl
  · have hkeep : ∀ {cs' : List Value} {x' : α}, R w (fun b => S b ∧ some b ≠ v.ownBlock) cs' x' → R w' (fun b => S b ∧ some b ≠ v'.ownBlock) cs' x' := by
      intro cs' x' hr
      have h1 := st.more hr (T := fun b => (S b ∧ some b ≠ v.ownBlock) ∧ b < w.heap.size) fun b hb hh => ⟨hh, hb⟩
      have h2 := st.keep h1 (w' := w') fun b hb ⟨⟨_, hh⟩, _⟩ => hg.block b hb hh
      refine st.more h2 fun b hb ⟨⟨ha, hh⟩, hlt⟩ => ⟨ha, ?_⟩
      rcases hat with hat | hat
      · rw [hat]; exact hh
      · rw [hat]; intro e; injection e with e; omega
    intro j cs' x' hj hx'
    by_cases hjl : j < xs.length
    · rw [List.getElem?_append_left hjl] at hx'
      rw [List.getElem?_append_left (by omega)] at hj
      exact hkeep (o4 j cs' x' hj hx')
    · rw [List.getElem?_append_right (by omega)] at hx'
      rw [List.getElem?_append_right (by omega)] at hj
      have e1 : j - xs.length = 0 := by
        have := (List.getElem?_eq_some_iff.1 hx').1; simp at this; omega
      rw [o2, e1] at hj
      rw [e1] at hx'
      simp at hj hx'
      subst hj; subst hx'
      exact hkeep hR

/-- append(v, x), x's cells just laid by the variadic's box: the world is 'w.alloc' of it. -/
theorem wpList_appendNew {P : Program} {ops : Array Oper} {rest : List Oper} {o : Oper} {a : Act} {Q : Exit → Act → World → Prop} (hgd : o.guard = none) (s y : Operand) (t : TypeId)
    (ho : o.op = .call { callee := .builtin .append, args := #[s, y], argTypes := #[t, t] })
    (e : TypeId) (z : Value) (k bytes : Nat) (ht : P.underlying t = some (.slice e)) (hinfo : (P.info? e).map (fun i => (i.zero, i.size, i.bytes)) = some (some z, k, bytes)) (hzs : z.cells.size = k) (hsz : 0 < k)
    (R : ERel α) [st : Steady R] (base : Nat) (S : Nat → Prop) (v : Value) (xs : List α) (hs : a.eval s = v) (hown : OwnSl e k R w base S v xs)
    (cs : Array Value) (x : α) (H : Nat) (hH : w.heap.size = H) (hx : a.eval y = .slice (some ⟨H, 0, none⟩) 1 1) (hl : cs.size = k) (h1 : ∀ u ∈ cs.toList, u.oneCell' = true)
    (hR : R w (fun b => S b ∧ some b ≠ v.ownBlock) cs.toList x) (hbytes : (xs.length + 1) * bytes ≤ 140737488355328) (hb0 : 0 < bytes) (hbase : base ≤ w.heap.size)
    (h : ∀ v' w', OwnSl e k R w' base S v' (xs ++ [x]) → w.grownBy w' v.ownBlock → (v'.ownBlock = v.ownBlock ∨ ∃ g, v'.ownBlock = some g ∧ w.heap.size ≤ g) → wpList P ops Q rest (a.put o.dst v') w') :
    wpList P ops Q (o :: rest) a (w.alloc (.cells cs e)) := by
  subst hH
  have hb : Below w.heap.size w (w.alloc (.cells cs e)) := (Below.refl _ _).alloc (Nat.le_refl _) _
  refine wpList_appendSl hgd s y t ho e z k bytes ht hinfo hzs hsz R base S v xs hs (hown.alloc _) ⟨w.heap.size, 0, none⟩ cs.toList x hx (by simpa using hl) ?_ h1
    (st.keep hR fun b hlt _ => hb.block b hlt) hbytes hb0 (by simp; omega) fun v' w' h2 h3 h4 => h v' w' h2 ?_ ?_
  · exact World.news_of_block (cs := cs) (t := e) (fr := (0, 0)) (heap_alloc_new w _)
  · exact ⟨h3.os, h3.tape, h3.output, Nat.le_trans (by simp) h3.size, fun i hi hne => (h3.block i (by simp; omega) hne).trans (Below.heap_alloc w _ i hi)⟩
  · rcases h4 with h4 | h4
    · exact .inl h4
    · exact .inr ⟨_, h4, by simp⟩
end
end Go.Mm
