import Derived.Test.YtoifinmcoldidaaE8
import Derived.Test.YtoifinmcoldidaaDv
import Derived.Test.YtoifinmcoldidaaC13
set_option maxRecDepth 100000
set_option linter.unusedVariables false
set_option linter.unusedSimpArgs false
namespace Go.Proofs.Ytoifinmcoldidaa
open Go.RowKit Go.Mm Sb

/-! ### CoalesceDivides -/
theorem canonV_len (f : Int → Int → Option Sec) (v : Int) : (canonV f v).length ≤ 4096 := by
  unfold canonV pickW
  rw [List.length_map]
  exact runs_len _ _
theorem partK_len (F : Int → Int → Option Sec) (K : Int → Bool) (k : Nat) : (partK F K k).length ≤ k * 4096 := by
  induction k with
  | zero => simp [partK]
  | succ k ih =>
    rw [partK_succ, List.length_append]
    have := canonV_len (partF F K) (k : Nat)
    omega
/-- what lies: two lists under way, their data read through blocks that are no row of theirs -/
def Two (w : World) (base : Nat) (u v : Value) (a b : List Wr) : Prop :=
  ∃ D : Nat → Prop, OwnSl 35 3 RWr w base D u a ∧ OwnSl 35 3 RWr w base D v b ∧ (∀ x, D x → x < w.heap.size ∧ some x ≠ u.ownBlock ∧ some x ≠ v.ownBlock) ∧ (u.ownBlock = none ∨ u.ownBlock ≠ v.ownBlock)
theorem Two.below {w w' : World} {base : Nat} {u v : Value} {a b : List Wr} (h : Two w base u v a b) (hb : Below w.heap.size w w') : Two w' base u v a b := by
  obtain ⟨D, h1, h2, h3, h4⟩ := h
  exact ⟨D, h1.below hb, h2.below hb, fun x hx => by have := h3 x hx; have := hb.size; exact ⟨by omega, (h3 x hx).2.1, (h3 x hx).2.2⟩, h4⟩
theorem Two.lt {w : World} {base : Nat} {u v : Value} {a b : List Wr} (h : Two w base u v a b) : (∀ g, u.ownBlock = some g → base ≤ g ∧ g < w.heap.size) ∧ (∀ g, v.ownBlock = some g → base ≤ g ∧ g < w.heap.size) := by
  obtain ⟨D, h1, h2, h3, h4⟩ := h
  exact ⟨h1.lt, h2.lt⟩
/-- append to the first; what comes is read through blocks from lo on, behind both rows -/
theorem Two.app {ops : Array Oper} {rest : List Oper} {o : Oper} {act : Act} {Q : Exit → Act → World → Prop} {w : World} (hgd : o.guard = none) (s y : Operand)
    (ho : o.op = .call { callee := .builtin .append, args := #[s, y], argTypes := #[22, 22] }) (base : Nat) (T : Nat → Prop) (u v : Value) (a b c : List Wr) (hs : act.eval s = u) (h : Two w base u v a b)
    (hT : ∀ x, T x → some x ≠ u.ownBlock ∧ some x ≠ v.ownBlock) (vy : Value) (hx : act.eval y = vy) (hy : RWrs w T vy c) (hlen : a.length + c.length ≤ 1000000) (hbase : base ≤ w.heap.size)
    (K : ∀ u' w', Two w' base u' v (a ++ c) b → w.grownBy w' u.ownBlock → (u'.ownBlock = u.ownBlock ∨ u'.ownBlock = some w.heap.size) → wpList Try.prog ops Q rest (act.put o.dst u') w') : wpList Try.prog ops Q (o :: rest) act w := by
  obtain ⟨D, h1, h2, h3, h4⟩ := h
  have hl1 := h1.lt
  have hl2 := h2.lt
  refine wpList_appendMany hgd s y 22 ho 35 _ 3 40 Try.underlying22 infoW rfl (by decide) RWr RWr.one base (fun x => (D x ∨ T x) ∧ x < w.heap.size) u a hs (h1.more fun x hx hD => ⟨.inl hD, hx⟩) vy c hx
    (hy.more fun x hx hh => ⟨⟨.inr hh, hx⟩, (hT x hh).1⟩) (by omega) (by decide) hbase ?_
  intro u' w' hO hg hat
  have hvne : v.ownBlock = none ∨ v.ownBlock ≠ u.ownBlock := by
    rcases h4 with h | h
    · cases hq : v.ownBlock with
      | none => exact .inl rfl
      | some g => exact .inr (by rw [h]; simp)
    · exact .inr (Ne.symm h)
  have hfar : ∀ x, ((D x ∨ T x) ∧ x < w.heap.size) → some x ≠ u.ownBlock ∧ some x ≠ v.ownBlock := fun x ⟨hh, hxl⟩ => by
    rcases hh with hD | hl
    · exact (h3 x hD).2
    · exact hT x hl
  have hgs := hg.size
  refine K u' w' ⟨fun x => (D x ∨ T x) ∧ x < w.heap.size, hO, (h2.kept hg hvne (fun x hx hD _ => (h3 x hD).2.1)).more (fun x hx hD => ⟨.inl hD, (h3 x hD).1⟩), fun x hx => ?_, ?_⟩ hg hat
  · have := hfar x hx
    refine ⟨by omega, ?_, this.2⟩
    rcases hat with e | e
    · rw [e]; exact this.1
    · rw [e]; intro e2; injection e2 with e2; omega
  · rcases hat with e | e
    · rw [e]; exact h4
    · rw [e]
      refine .inr fun e2 => ?_
      have := (hl2 _ e2.symm).2
      omega
theorem Two.swap {w : World} {base : Nat} {u v : Value} {a b : List Wr} (h : Two w base u v a b) : Two w base v u b a := by
  obtain ⟨D, h1, h2, h3, h4⟩ := h
  refine ⟨D, h2, h1, fun x hx => ⟨(h3 x hx).1, (h3 x hx).2.2, (h3 x hx).2.1⟩, ?_⟩
  rcases h4 with h | h
  · cases hq : v.ownBlock with
    | none => exact .inl rfl
    | some g => exact .inr (by rw [h]; simp)
  · exact .inr (Ne.symm h)
end Go.Proofs.Ytoifinmcoldidaa
