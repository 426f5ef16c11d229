import Derived.Test.YtoifinmcoldidaaE2
import Derived.RangeFuncNested
import Derived.RangeFuncBound
import Derived.RangeFuncCalls
import Derived.RangeFuncLeaves
import Derived.Shelf.Abstract
import Derived.Shelf.RegionOpen
import Derived.WalkKit
import Derived.OwnWalkIn
import Derived.TacticsInMore
import Derived.LoopNIn
import Derived.LoopIn
set_option maxRecDepth 100000
set_option linter.unusedVariables false
set_option linter.unusedSimpArgs false
namespace Go.Proofs.Ytoifinmcoldidaa
open Go.RowKit Go.Mm Sb
attribute [local go_sem] Oper.semAt_some

/-! ### a range over an iterator that keeps numbers of its own in cells -/
/-- no row of extents, no box of extents -/
def NotX (o : Obj) : Prop := ∀ cs t fr, o = .cells cs t fr → t ≠ 68 ∧ t ≠ 42
/-- cells, but neither of these -/
def Foreign (o : Obj) : Prop := o.isCells = true ∧ NotX o
def AbidesX (B0 : Nat) (J : List Ext → World → Prop) : Prop := ∀ pre (A B : World) (row : Option Nat), J pre A → A.grownBy B row → (∀ r, row = some r → B0 ≤ r ∧ ∃ o : Obj, A.heap[r]? = some o ∧ Foreign o) → J pre B
def StandsX {β : Type} (B0 : Nat) (I : β → World → Prop) : Prop := ∀ s (A B : World) (row : Option Nat), I s A → A.grownBy B row → (∀ r, row = some r → B0 ≤ r ∧ ∃ o : Obj, A.heap[r]? = some o ∧ NotX o) → I s B
theorem notX_of {o : Obj} (h : o.isCells = false) : NotX o := fun cs t fr e => by subst e; simp [Obj.isCells] at h
theorem StandsX.alloc {β : Type} {B0 : Nat} {I : β → World → Prop} (h : StandsX B0 I) {s : β} {W : World} (o : Obj) (hs : I s W) : I s (W.alloc o) := h s W _ none hs (World.grownBy_alloc W o none) (by simp)
theorem StandsX.turn {β : Type} {B0 : Nat} {I : β → World → Prop} (h : StandsX B0 I) {s : β} {W : World} {l : Nat} {o : Obj} (o' : Obj) (hs : I s W) (hb : B0 ≤ l) (hl : W.heap[l]? = some o) (ho : o.isCells = false) : I s (W.putObj l o') :=
  h s W _ (some l) hs (grownBy_putObj' W l o') (fun r e => by injection e with e; subst e; exact ⟨hb, o, hl, notX_of ho⟩)
def encXs (x : Ext) : Array Value := #[.agg #[.int .i64 x.start, .int .i64 x.count]]
/-- The iterator's contract: it yields the extents xs, one after another. -/
def SeqX (n : Nat) (gf : Nat) (lb : Array Value) (n₀ N : Nat) (xs : List Ext) (w0 : World) : Prop :=
  ∀ (l : Nat) (J : List Ext → World → Prop) (W : World), Below w0.heap.size w0 W → AbidesX W.heap.size J →
    (∀ pre x W1, J pre W1 → pre.length < N → YieldAt Fence.wide (n - 1) Try.prog l (encXs x) W1 fun e W' => e = .returned (.bool true) ∧ J (pre ++ [x]) W' ∧ KpX n₀ W1 W') →
    J [] W → CallsIn Fence.wide n Try.prog gf (#[.func (.yield l) #[] #[]] ++ lb) W fun e W' => (∃ v, e = .returned v) ∧ J xs W'
def postX (I : List Ext → World → Prop) (n₀ : Nat) (pre : List Ext) (W : World) : Exit → Act → World → Prop
  | .normal, _, W' => KeepsOthers W W' ∧ KpX n₀ W W' ∧ I pre W'
  | _, _, _ => False
theorem rangeX {g : Operand} {p : Tmp} {assign body : Code} {Q : Exit → Act → World → Prop} {a : Act} {w : World} {n : Nat} {gf : Nat} {lb : Array Value} (hg : a.eval g = .func (.func gf) #[] lb)
    (eg : ∀ args w, (callFunc gf args).run Try.prog w = .ok (.enter gf args) w) {n₀ N : Nat} {xs : List Ext} {w0 : World} (hseq : SeqX (n - 1) gf lb n₀ N xs w0) (hn0 : n₀ ≤ w.heap.size) (hb0 : Below w0.heap.size w0 w)
    (I : List Ext → World → Prop) (hI : StandsX w.heap.size I) (h0 : I [] w) (Ax : Ext → Act → World → Prop) (hAx : ∀ x a', StandsX w.heap.size (fun (_ : Unit) W => Ax x a' W))
    (hassign : ∀ (l : Nat) (pre : List Ext) (x : Ext) (W : World) (K : Act → World → Prop), I pre W → (∀ a' W', KeepsOthers W W' → KpX n₀ W W' → I pre W' → Ax x a' W' → K a' W') →
      assign.wpIn (Fence.wide.inRound l) (n - 1 - 1) Try.prog (Exit.then K (fun _ _ _ => False)) { tmps := a.tmps.setIfInBounds p (.agg #[.int .i64 x.start, .int .i64 x.count]), defers := [] } W)
    (hbody : ∀ (l : Nat) (pre : List Ext) (x : Ext) (a' : Act) (W : World), I pre W → Ax x a' W → pre.length < N → body.wpIn (Fence.wide.inRound l) (n - 1 - 1) Try.prog (postX I n₀ (pre ++ [x]) W) a' W)
    (hdone : ∀ (D : Nat) (W : World), w.heap.size ≤ D → I xs W → W.heap[D]? = some (.deferred (some [])) → Q .normal { a with defers := { target := .collected D, args := #[] } :: a.defers } W) :
    (Code.rangeFunc g #[p] assign body).wpIn Fence.wide n Try.prog Q a w := by
  refine wpIn_rangeFunc fun fn hfn => ?_
  let rec_ : LoopState → Loop := fun st => { state := st, pending := none, fn, tmps := a.tmps, params := #[p], assign, body, defers := w.heap.size }
  let D := w.heap.size
  let L := w.heap.size + 1
  let W1 := (w.alloc (.deferred (some []))).alloc (.loop (rec_ .ready))
  have hL1 : W1.heap[L]? = some (.loop (rec_ .ready)) := by
    have := World.alloc_heap_new (w.alloc (.deferred (some []))) (.loop (rec_ .ready))
    rwa [World.size_alloc] at this
  have hD1 : W1.heap[D]? = some (.deferred (some [])) := (Below.heap_alloc _ _ _ (by simp [D])).trans (World.alloc_heap_new w _)
  have hI1 : I [] W1 := hI.alloc _ (hI.alloc _ h0)
  have hB1 : Below w0.heap.size w0 W1 := (hb0.alloc hb0.size _).alloc (by have := hb0.size; simp; omega) _
  refine ⟨L, [{ target := .collected D, args := #[] }], W1, { target := .fn (.func gf) lb, args := #[.func (.yield L) #[] #[]] }, W1, gf, #[.func (.yield L) #[] #[]] ++ lb, W1, ?_, ?_, ?_, ?_, ?_, ?_⟩
  · exact run_enterLoop_outer _ _ _ _ _
  · simp only [resolve, hg]
    simp [go_sem]
  · intro f' _; trivial
  · simp [invoke, go_sem, eg]
  · intro h; exact absurd h (by decide)
  · have key := hseq L (fun pre W => I pre W ∧ W.heap[L]? = some (.loop (rec_ .ready)) ∧ W.heap[D]? = some (.deferred (some []))) W1 hB1 ?_ ?_ ⟨hI1, hL1, hD1⟩
    · refine key.mono ?_
      rintro e W2 ⟨⟨v, rfl⟩, hi, hl, hk⟩
      refine ⟨none, _, run_endLoop (P := Try.prog) hl (by simp [rec_]), ?_⟩
      exact hdone D _ (Nat.le_refl _) (hI.turn _ hi (by simp [L]) hl rfl) ((World.putObj_heap_other (by simp [L, D])).trans hk)
    · intro pre A B row hs hgr hr
      have stay : ∀ (k : Nat) (o : Obj), A.heap[k]? = some o → o.isCells = false → B.heap[k]? = some o := fun k o hk ho => by
        rw [← hk]
        refine hgr.block k (Array.getElem?_eq_some_iff.1 hk).1 (fun e => ?_)
        obtain ⟨_, o2, h2, h3⟩ := hr k e.symm
        rw [hk] at h2
        injection h2 with h2
        subst h2
        exact absurd h3.1 (by rw [ho]; simp)
      exact ⟨hI pre A B row hs.1 hgr (fun r e => by obtain ⟨hb, o, h2, h3⟩ := hr r e; exact ⟨by simp [W1] at hb; omega, o, h2, h3.2⟩), stay L _ hs.2.1 rfl, stay D _ hs.2.2 rfl⟩
    · rintro pre x W ⟨hi, hl, hk⟩ hlen
      have ey := run_yield (P := Try.prog) (args := encXs x) hl rfl
      have et : ((rec_ .ready).params.zip (encXs x)).foldl (fun tmps (t, a) => tmps.setIfInBounds t a) (rec_ .ready).tmps = a.tmps.setIfInBounds p (.agg #[.int .i64 x.start, .int .i64 x.count]) := by simp [rec_, encXs]
      rw [et] at ey
      refine ⟨fn, _, assign, body, ey, roundIn_of_wpIn hfn (hassign L pre x W _ hi fun a' W' ko kp hi' hax => ?_)⟩
      have hl' := ko.same L _ hl rfl
      have hk' := ko.same D _ hk rfl
      have hlt := (Array.getElem?_eq_some_iff.1 hl').1
      have hDl : D ≠ L := by simp [D, L]
      refine ⟨_, run_beginRound hl' rfl, ?_⟩
      have kp2 : KpX n₀ W' (W'.putObj L (.loop { rec_ .ready with state := .busy })) := KpX.turn (w := w) hn0 W' L _ _ (by simp [L]) hl' rfl rfl
      have hlb := World.putObj_heap_same (o := Obj.loop { rec_ .ready with state := .busy }) hlt
      have hkb : (W'.putObj L (.loop { rec_ .ready with state := .busy })).heap[D]? = some (.deferred (some [])) := (World.putObj_heap_other hDl).trans hk'
      refine wpIn_mono (hbody L pre x a' _ (hI.turn _ hi' (by simp [L]) hl' rfl) (hAx x a' () _ _ (some L) hax (grownBy_putObj' W' L _) (fun r e => by injection e with e; subst e; exact ⟨by simp [L], _, hl', notX_of rfl⟩)) hlen) ?_
      rintro e a3 W3 hp
      cases e with
      | normal =>
        obtain ⟨k3, kp3, hi3⟩ := hp
        have hl3 := k3.same L _ hlb rfl
        have hk3 := k3.same D _ hkb rfl
        have hlt3 := (Array.getElem?_eq_some_iff.1 hl3).1
        refine ⟨_, _, run_endRound (P := Try.prog) none hl3, rfl, ⟨hI.turn _ hi3 (by simp [L]) hl3 rfl, World.putObj_heap_same hlt3, (World.putObj_heap_other hDl).trans hk3⟩, ?_⟩
        exact ((kp.trans kp2).trans kp3).trans (KpX.turn (w := w) hn0 W3 L _ _ (by simp [L]) hl3 rfl rfl)
      | ret => exact hp.elim
      | exit id => exact hp.elim
      | goto t => exact hp.elim
      | panic ch => exact hp.elim
      | outgrown => exact hp.elim
end Go.Proofs.Ytoifinmcoldidaa
