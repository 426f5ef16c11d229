import Derived.Test.YtoifinmcoldidaaE5
import Derived.RangeFuncNested
import Derived.RangeFuncBound
import Derived.RangeFuncCalls
import Derived.RangeFuncLeaves
import Derived.Shelf.Abstract
import Derived.Shelf.RegionOpen
import Derived.WalkKit
import Derived.OwnWalkIn
import Derived.TacticsInMore
import Derived.LoopNIn
import Derived.LoopIn
set_option maxRecDepth 100000
set_option linter.unusedVariables false
set_option linter.unusedSimpArgs false
namespace Go.Proofs.Ytoifinmcoldidaa
open Go.RowKit Go.Mm Sb
attribute [local go_sem] Oper.semAt_some

/-! ### AppendSeq, Collect -/
set_option maxHeartbeats 4000000 in
theorem appendSeq_any (gf : Nat) (lb : Array Value) (xs : List Ext) (w : World) (eg : ∀ args w, (callFunc gf args).run Try.prog w = .ok (.enter gf args) w)
    (hseq : SeqX 4 gf lb w.heap.size 10000000 xs w) (hxs : ∀ x ∈ xs, In64 x.start ∧ In64 x.count) :
    Calls Try.prog 77 #[.slice none 0 0, .func (.func gf) #[] lb] w fun e w' => ∃ v, e = .returned v ∧ RExts w' (fun b => w.heap.size ≤ b) v xs ∧ Below w.heap.size w w' := by
  have hA := (Below.refl w.heap.size w).alloc (Nat.le_refl _) (.cells #[.slice none 0 0] 42)
  have hI0 : InvX w.heap.size w.heap.size w [] (w.alloc (.cells #[.slice none 0 0] 42)) := ⟨⟨_, Blk.new _ _ _, OwnSl.nil _⟩, hA, by simp⟩
  refine (callsIn_wide (n := 5)).1 ?_
  refine callsIn_of_wp_marks Try.func77 rfl trivial ?_ rfl
  simp only [Try.ntmps77, List.size_toArray, List.length_cons, List.length_nil, Nat.reduceAdd, Nat.reduceSub, Array.replicate_succ, Array.replicate_zero, List.push_toArray, List.append_toArray, List.nil_append, List.cons_append]
  gi_wp2
  refine rangeX (n := 5) (gf := gf) (lb := lb) rfl eg hseq (by simp) hA (InvX w.heap.size w.heap.size w) (invX_stands _ _ _ _ (by simp)) hI0
    (fun x a' W => ∃ Bx, Blk W Bx 68 #[.int .i64 x.start, .int .i64 x.count] ∧ a' = { tmps := #[.slice none 0 0, .func (.func gf) #[] lb, .pointer (some ⟨w.heap.size, 0, none⟩), undef, .slice none 0 0, .pointer (some ⟨Bx, 0, none⟩), .func (.func gf) #[] lb, .agg #[.int .i64 x.start, .int .i64 x.count], undef, undef, undef, undef, undef], defers := [] })
    ?ax ?assign ?body ?done
  case ax =>
    rintro x a' _ A B row ⟨Bx, hb, rfl⟩ hg hr
    exact ⟨Bx, stands_blk (.inl rfl) hb hg (fun r e => (hr r e).2), rfl⟩
  case assign =>
    intro l pre x W K hi hK
    gi_wp2
    have hi' := hi
    obtain ⟨_, _, hsz⟩ := hi'
    exact hK _ _ (KeepsOthers.alloc _ _) (kpx_alloc _ _ hsz) ((invX_stands _ _ w.heap.size _ (Nat.le_refl _)).alloc _ hi) ⟨W.heap.size, Blk.new _ _ _, rfl⟩
  case body =>
    rintro l pre x a' W ⟨⟨v, hv, ho⟩, hbel, hsz⟩ ⟨Bx, hbx, rfl⟩ hlen
    obtain ⟨A1, c1, rfl, _, _⟩ := ho.val
    obtain ⟨v0, v1⟩ := hv.one
    obtain ⟨q0, q1, q2, q3⟩ := hbx.two
    have hty := own_row_type ho
    obtain ⟨crow, hrow⟩ := ho.row
    have hne := own_blk_ne hrow hv (by decide)
    have hvlt := hv.lt
    gi_wp2_with (first | (gi_at_builtin; refine wpListIn_appendX rfl _ _ rfl w.heap.size _ pre rfl ho x rfl (by omega) hsz ?_; intro v5 w5 hO5 hg5; obtain ⟨A5, c5, hve, _, _⟩ := hO5.val; rw [show (pre ++ [x]).length = pre.length + 1 by simp] at hve; subst hve; have hv5 := (hv.alloc (.cells #[.int .i64 x.start, .int .i64 x.count] 68)).grown hg5 (Ne.symm hne); obtain ⟨u0, u1⟩ := hv5.one))
    have hs5 := hg5.size
    have gt : ∀ r, (Value.slice A1 pre.length c1).ownBlock = some r → w.heap.size ≤ r ∧ ∃ cs t fr, (W.alloc (.cells #[.int .i64 x.start, .int .i64 x.count] 68)).heap[r]? = some (Obj.cells cs t fr) ∧ (t = 68 ∨ t = 42) := fun r e => by
      obtain ⟨h1, cs, fr, h2⟩ := hty r e
      exact ⟨h1, cs, 68, fr, (Below.heap_alloc W _ r (Array.getElem?_eq_some_iff.1 h2).1).trans h2, .inl rfl⟩
    have gs := grown_setCell w5 ⟨w.heap.size, 0, none⟩ (.slice A5 (pre.length + 1) c5)
    have hsz5 : w.heap.size ≤ w5.heap.size := by simp at hs5; omega
    obtain ⟨crow5, hrow5⟩ := hO5.row
    refine ⟨(KeepsOthers.alloc W _).trans ((ko_grown hg5 (fun r e => by obtain ⟨_, cs, t, fr, h, _⟩ := gt r e; exact ⟨cs, t, fr, h⟩)).trans (ko_grown gs (fun r e => by injection e with e; subst e; exact ⟨_, _, _, hv5⟩))), ?_, ⟨⟨_, by simpa using hv5.set_ 0 (.slice A5 (pre.length + 1) c5), hO5.kept gs (.inr (own_blk_ne hrow5 hv5 (by decide))) (fun _ _ h => h.elim)⟩, ?_, by simp; omega⟩⟩
    · exact ((kpx_alloc W _ hsz).trans (kpx_grown hg5 (by simp; omega) gt)).trans (kpx_grown gs hsz5 (fun r e => by injection e with e; subst e; exact ⟨Nat.le_refl _, _, _, _, hv5, .inr rfl⟩))
    · exact ((hbel.alloc hsz _).grown hg5 (by simp; omega) (fun r e => (gt r e).1)).setCell (Nat.le_refl _) _
  case done =>
    rintro D W hD ⟨⟨v, hv, ho⟩, hbel, hsz⟩ hK
    obtain ⟨A1, c1, rfl, hc1, hm1⟩ := ho.val
    obtain ⟨v0, v1⟩ := hv.one
    have hDn : w.heap.size + 1 ≤ D := by simpa using hD
    have hgD := grownBy_putObj' W D (.deferred none)
    have hOD := ho.kept hgD (by
      cases hq : (Value.slice A1 xs.length c1).ownBlock with
      | none => exact .inl rfl
      | some g =>
        refine .inr fun e => ?_
        obtain ⟨_, cs, fr, h2⟩ := own_row_type ho g hq
        injection e with e
        subst e
        rw [hK] at h2
        cases h2) (fun _ _ h => h.elim)
    have hBD := hbel.grown hgD hsz (fun r e => by injection e with e; omega)
    have hrd : RExts (W.putObj D (.deferred none)) (fun b => w.heap.size ≤ b) (.slice A1 xs.length c1) xs := by
      obtain ⟨A, cap, hv', h1, h2, hx⟩ := hOD.reads (T := fun b => w.heap.size ≤ b) (fun b hb hh => by rcases hh with hh | hh; exact hh.elim; exact (hOD.lt b hh.symm).1)
      refine ⟨A, cap, hv', h1, h2, fun h0 => ?_⟩
      obtain ⟨b, off, hA', hlt, hb, hxx⟩ := hx h0
      refine ⟨b, off, hA', hlt, hb, fun j x hj => ?_⟩
      obtain ⟨cs, hl, hc, hr⟩ := hxx j x hj
      have := hxs x (List.mem_of_getElem? hj)
      exact ⟨cs, hl, hc, this.1, this.2, hr⟩
    gi_wp2
    refine ⟨by simp, .inl ⟨_, _, rfl, run_takeDeferred hK, ?_⟩⟩
    exact ⟨.slice A1 xs.length c1, by simp [results, Try.results77, go_sem], .slice A1 xs.length c1, rfl, hrd, hBD⟩
end Go.Proofs.Ytoifinmcoldidaa
