import Derived.Test.YtoifinmcoldidaaE1
import Derived.RangeFuncNested
import Derived.RangeFuncBound
import Derived.RangeFuncCalls
import Derived.RangeFuncLeaves
import Derived.Shelf.Abstract
import Derived.Shelf.RegionOpen
import Derived.WalkKit
import Derived.OwnWalkIn
import Derived.TacticsInMore
import Derived.LoopNIn
import Derived.LoopIn
set_option maxRecDepth 100000
set_option linter.unusedVariables false
set_option linter.unusedSimpArgs false
namespace Go.Proofs.Ytoifinmcoldidaa
open Go.RowKit Go.Mm Sb
attribute [local go_sem] Oper.semAt_some

/-! ### the sweep, as an iterator -/
/-- What a round of the caller's keeps: what lay below n₀, and whatever is no extent's row and no box of extents. -/
def KpX (n₀ : Nat) (W W' : World) : Prop := Below n₀ W W' ∧ W.heap.size ≤ W'.heap.size ∧ ∀ (b : Nat) (cs : Array Value) (t : TypeId) (fr : Nat × Nat), W.heap[b]? = some (Obj.cells cs t fr) → t ≠ 68 → t ≠ 42 → W'.heap[b]? = W.heap[b]?
theorem KpX.trans {n₀ : Nat} {A B C : World} (h : KpX n₀ A B) (k : KpX n₀ B C) : KpX n₀ A C := by
  obtain ⟨h1, h2, h3⟩ := h
  obtain ⟨k1, k2, k3⟩ := k
  exact ⟨h1.trans k1, by omega, fun b cs t fr hb t1 t2 => by
    have e1 := h3 b cs t fr hb t1 t2
    rw [k3 b cs t fr (e1.trans hb) t1 t2, e1]⟩
theorem KpX.turn {n₀ : Nat} {w : World} (hn : n₀ ≤ w.heap.size) (W : World) (l : Nat) (o o' : Obj) (hl : w.heap.size ≤ l) (h : W.heap[l]? = some o) (hc : o.isCells = false) (hw : o.isWalk = false) : KpX n₀ W (W.putObj l o') := by
  have hg := grownBy_putObj' W l o'
  have hlt := (Array.getElem?_eq_some_iff.1 h).1
  refine ⟨belowK_b hn W l o o' hl h hc hw, hg.size, fun b cs t fr hb _ _ => hg.block b (Array.getElem?_eq_some_iff.1 hb).1 (fun e => ?_)⟩
  injection e with e
  subst e
  rw [h] at hb
  injection hb with hb
  subst hb
  simp [Obj.isCells] at hc
theorem KpX.blk {n₀ : Nat} {W W' : World} (h : KpX n₀ W W') {g : Nat} {t : TypeId} {cs : Array Value} (hb : Blk W g t cs) (t1 : t ≠ 68) (t2 : t ≠ 42) : Blk W' g t cs := (h.2.2 g cs t (0, 0) hb t1 t2).trans hb
theorem EndsAt.kept {n₀ base : Nat} {W W' : World} {v : Value} {E : List Sb.End} (h : EndsAt W base v E) (hk : KpX n₀ W W') : EndsAt W' base v E := by
  obtain ⟨A, cap, hv, h1, h2, h3⟩ := h
  refine ⟨A, cap, hv, h1, h2, fun h0 => ?_⟩
  obtain ⟨g, cs, hA, hb, hg, hx⟩ := h3 h0
  exact ⟨g, cs, hA, hb, hk.blk hg (by decide) (by decide), hx⟩
theorem EndsAt.below {base : Nat} {W W' : World} {v : Value} {E : List Sb.End} (h : EndsAt W base v E) (hk : Below W.heap.size W W') : EndsAt W' base v E := by
  obtain ⟨A, cap, hv, h1, h2, h3⟩ := h
  refine ⟨A, cap, hv, h1, h2, fun h0 => ?_⟩
  obtain ⟨g, cs, hA, hb, hg, hx⟩ := h3 h0
  exact ⟨g, cs, hA, hb, Blk.below hg hk, hx⟩
/-- (one keep function after another: the union's) -/
def keepU (a b : Bool) : Bool := a || b
theorem keepU_any (a b : Bool) (w : World) : Calls Try.prog 80 #[.bool a, .bool b] w fun e w' => e = .returned (.bool (keepU a b)) ∧ w = w' := by
  cases a <;> cases b
  all_goals
    go_enter Try.func80, Try.ntmps80
    go_wp2
    go_ret
    exact ⟨rfl, rfl⟩
abbrev Fw := Fence.wide
/-- what the loop over the ends has said when k of them are behind it -/
structure SwSt where
  d0 : Int
  d1 : Int
  start : Int
  inside : Bool
  out : List Ext
def swStep (keep : Bool → Bool → Bool) (s : SwSt) (x : Sb.End) (same : Bool) : SwSt :=
  let d0 := if x.list = 0 then s.d0 + x.step else s.d0
  let d1 := if x.list = 1 then s.d1 + x.step else s.d1
  if same then ⟨d0, d1, s.start, s.inside, s.out⟩
  else
    let now := keep (decide (0 < d0)) (decide (0 < d1))
    let start := if now && !s.inside then x.at_ else s.start
    ⟨d0, d1, start, now, if !now && s.inside then s.out ++ [⟨start, x.at_ - start⟩] else s.out⟩
theorem sweepL_step (keep : Bool → Bool → Bool) (x : Sb.End) (l : List Sb.End) (s : SwSt) :
    s.out ++ sweepL keep (x :: l) s.d0 s.d1 s.start s.inside = (swStep keep s x (sameNext l x.at_)).out ++ sweepL keep l (swStep keep s x (sameNext l x.at_)).d0 (swStep keep s x (sameNext l x.at_)).d1 (swStep keep s x (sameNext l x.at_)).start (swStep keep s x (sameNext l x.at_)).inside := by
  obtain ⟨d0, d1, st, ins, out⟩ := s
  unfold swStep
  rw [sweepL]
  dsimp only
  generalize (if x.list = 0 then d0 + x.step else d0) = e0
  generalize (if x.list = 1 then d1 + x.step else d1) = e1
  cases hs : sameNext l x.at_ with
  | true => simp
  | false =>
    simp only [Bool.false_eq_true, if_false]
    generalize keep (decide (0 < e0)) (decide (0 < e1)) = now
    cases now <;> cases ins <;> simp
end Go.Proofs.Ytoifinmcoldidaa
