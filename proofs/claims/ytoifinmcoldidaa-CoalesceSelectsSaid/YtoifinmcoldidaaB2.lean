import Derived.Test.YtoifinmcoldidaaB1
import Derived.RangeFuncNested
import Derived.RangeFuncBound
import Derived.RangeFuncCalls
import Derived.RangeFuncLeaves
import Derived.Shelf.Abstract
import Derived.Shelf.RegionOpen
import Derived.WalkKit
import Derived.OwnWalkIn
import Derived.TacticsInMore
import Derived.LoopNIn
import Derived.LoopIn
set_option maxRecDepth 100000
set_option linter.unusedVariables false
set_option linter.unusedSimpArgs false
namespace Go.Proofs.Ytoifinmcoldidaa
open Go.RowKit Go.Mm Sb
attribute [local go_sem] Oper.semAt_some

/-! ### coalesce.Lookup -/
theorem eff_rev : ∀ (l : List Wr) (v s : Int), eff l v s = l.reverse.findSome? fun w => w.at? v s
  | [], v, s => rfl
  | w :: l, v, s => by
    rw [eff_cons, eff_rev l v s, List.reverse_cons, List.findSome?_append]
    congr 1
    simp
theorem backFn_any (v : Value) (w : World) (h : v.oneCell' = true) : Calls Try.prog 56 #[v] w fun e w' => e = .returned (.func (.func 82) #[] #[.pointer (some ⟨w.heap.size, 0, none⟩)]) ∧ w' = w.alloc (.cells #[v] 22) := by
  go_enter Try.func56, Try.ntmps56
  go_wp2
  go_ret
  exact ⟨rfl, rfl⟩
theorem egBack : ∀ args w, (callFunc 82 args).run Try.prog w = .ok (.enter 82 args) w := enters_of Try.func82 (by kernel_rfl) rfl
theorem wrapU (z : Int) : IntKind.u64.wrap z = z % 18446744073709551616 := by
  have hb : IntKind.u64.bits = 64 := by decide
  have hs : IntKind.u64.signed = false := by decide
  unfold IntKind.wrap
  rw [hb, hs]
  simp
theorem blk_own {g : Nat} {t : TypeId} {cs : Array Value} {A B : World} {row : Option Nat} (h : Blk A g t cs) (hg : A.grownBy B row) (hr : ∀ r, row = some r → ∃ o : Obj, A.heap[r]? = some o ∧ o.isCells = false) : Blk B g t cs := by
  refine Blk.grown h hg (fun e => ?_)
  obtain ⟨o, ho, hn⟩ := hr g e.symm
  have h' := h
  unfold Blk at h'
  rw [h'] at ho
  injection ho with ho
  subst ho
  simp [Obj.isCells] at hn
def LookI (vol s : Int) (w wR : World) (n₀ : Nat) (l : List Wr) (pre : List (YdOf n₀ wR l)) (W : World) : Prop :=
  (∀ y ∈ pre, y.1.x.at? vol s = none) ∧ (Blk W w.heap.size 3 #[.int .i64 vol] ∧ Blk W (w.heap.size + 1) 3 #[.int .i64 s] ∧ Blk W (w.heap.size + 1 + 1) 53 #[.int .u8 0, .int .u8 0, .int .u8 0, .int .u8 0, .int .u8 0, .int .u8 0, .int .u8 0, .int .u8 0] ∧ Blk W (w.heap.size + 1 + 1 + 1) 4 #[.bool false]) ∧ Below w.heap.size w W ∧ Below n₀ wR W ∧ n₀ ≤ W.heap.size
theorem lookI_own (vol s : Int) (w wR : World) (n₀ : Nat) (l : List Wr) (hn : w.heap.size ≤ n₀) : OwnFrom n₀ (LookI vol s w wR n₀ l) := by
  rintro pre X Y row ⟨h1, ⟨h2, h3, h4, h5⟩, h6, h7, h8⟩ hg hr
  have hr' := fun r e => (hr r e).2
  exact ⟨h1, ⟨blk_own h2 hg hr', blk_own h3 hg hr', blk_own h4 hg hr', blk_own h5 hg hr'⟩, h6.grown hg (by omega) (fun r e => by have := (hr r e).1; omega), h7.grown hg h8 (fun r e => (hr r e).1), by have := hg.size; omega⟩
def LookX (vol s : Int) (w wR : World) (n₀ : Nat) (l : List Wr) (c : Code) (pre : List (YdOf n₀ wR l)) (W : World) : Prop :=
  ∃ (pre' : List (YdOf n₀ wR l)) (x : YdOf n₀ wR l) (y : Sec), c = .ret ∧ pre = pre' ++ [x] ∧ (∀ z ∈ pre', z.1.x.at? vol s = none) ∧ x.1.x.at? vol s = some y ∧ (Blk W (w.heap.size + 1 + 1) 53 #[.int .u8 y.b0, .int .u8 y.b1, .int .u8 y.b2, .int .u8 y.b3, .int .u8 y.b4, .int .u8 y.b5, .int .u8 y.b6, .int .u8 y.b7] ∧ Blk W (w.heap.size + 1 + 1 + 1) 4 #[.bool true]) ∧ Below w.heap.size w W ∧ w.heap.size ≤ W.heap.size
theorem lookX_own (vol s : Int) (w wR : World) (n₀ : Nat) (l : List Wr) (hn : w.heap.size ≤ n₀) (c : Code) : OwnFrom n₀ (LookX vol s w wR n₀ l c) := by
  rintro pre X Y row ⟨p', x, y, h1, h2, h3, h4, ⟨h5, h6⟩, h7, h8⟩ hg hr
  have hr' := fun r e => (hr r e).2
  exact ⟨p', x, y, h1, h2, h3, h4, ⟨blk_own h5 hg hr', blk_own h6 hg hr'⟩, h7.grown hg h8 (fun r e => by have := (hr r e).1; omega), by have := hg.size; omega⟩
set_option maxHeartbeats 8000000 in
theorem lookC_any (v : Value) (l : List Wr) (vol s : Int) (w : World) (S : Nat → Prop) (h : RWrs w S v l) (h3 : In64 vol) (h4 : In64 s) :
    Calls Try.prog 27 #[v, .int .i64 vol, .int .i64 s] w (LookRet l vol s w) := by
  obtain ⟨A, cap, rfl, hcap, hm⟩ := h.val
  refine (callsIn_wide (n := 5)).1 ?_
  refine callsIn_of_wp_marks Try.func27 rfl trivial ?_ rfl
  simp only [Try.ntmps27, List.size_toArray, List.length_cons, List.length_nil, Nat.reduceAdd, Nat.reduceSub, Array.replicate_succ, Array.replicate_zero, List.push_toArray, List.append_toArray, List.nil_append, List.cons_append]
  gi_wp2_with (first | (refine ⟨trivial, ?_⟩; gi_at_call 56; refine (callsIn_wide.2 (backFn_any _ _ rfl)).mono ?_; rintro e w1 ⟨rfl, rfl⟩))
  have w5 : World := w
  clear w5
  obtain ⟨wR, hwR⟩ : ∃ wR, wR = ((((w.alloc (.cells #[.int .i64 vol] 3)).alloc (.cells #[.int .i64 s] 3)).alloc (.cells #[.int .u8 0, .int .u8 0, .int .u8 0, .int .u8 0, .int .u8 0, .int .u8 0, .int .u8 0, .int .u8 0] 53)).alloc (.cells #[.bool false] 4)).alloc (.cells #[.slice A l.length cap] 22) := ⟨_, rfl⟩
  have hsz : wR.heap.size = w.heap.size + 5 := by rw [hwR]; simp
  have k4 : Blk wR w.heap.size 3 #[.int .i64 vol] := by rw [hwR]; exact ((((Blk.new w _ _).alloc _).alloc _).alloc _).alloc _
  have k5 : Blk wR (w.heap.size + 1) 3 #[.int .i64 s] := by
    rw [hwR]
    have := (((Blk.new (w.alloc (.cells #[.int .i64 vol] 3)) 3 #[.int .i64 s]).alloc (.cells #[.int .u8 0, .int .u8 0, .int .u8 0, .int .u8 0, .int .u8 0, .int .u8 0, .int .u8 0, .int .u8 0] 53)).alloc (.cells #[.bool false] 4)).alloc (.cells #[.slice A l.length cap] 22)
    simpa only [World.size_alloc] using this
  have k6 : Blk wR (w.heap.size + 1 + 1) 53 #[.int .u8 0, .int .u8 0, .int .u8 0, .int .u8 0, .int .u8 0, .int .u8 0, .int .u8 0, .int .u8 0] := by
    rw [hwR]
    have := ((Blk.new ((w.alloc (.cells #[.int .i64 vol] 3)).alloc (.cells #[.int .i64 s] 3)) 53 #[.int .u8 0, .int .u8 0, .int .u8 0, .int .u8 0, .int .u8 0, .int .u8 0, .int .u8 0, .int .u8 0]).alloc (.cells #[.bool false] 4)).alloc (.cells #[.slice A l.length cap] 22)
    simpa only [World.size_alloc] using this
  have k7 : Blk wR (w.heap.size + 1 + 1 + 1) 4 #[.bool false] := by
    rw [hwR]
    have := (Blk.new (((w.alloc (.cells #[.int .i64 vol] 3)).alloc (.cells #[.int .i64 s] 3)).alloc (.cells #[.int .u8 0, .int .u8 0, .int .u8 0, .int .u8 0, .int .u8 0, .int .u8 0, .int .u8 0, .int .u8 0] 53)) 4 #[.bool false]).alloc (.cells #[.slice A l.length cap] 22)
    simpa only [World.size_alloc] using this
  have k8 : Blk wR (w.heap.size + 1 + 1 + 1 + 1) 22 #[.slice A l.length cap] := by
    rw [hwR]
    have := Blk.new ((((w.alloc (.cells #[.int .i64 vol] 3)).alloc (.cells #[.int .i64 s] 3)).alloc (.cells #[.int .u8 0, .int .u8 0, .int .u8 0, .int .u8 0, .int .u8 0, .int .u8 0, .int .u8 0, .int .u8 0] 53)).alloc (.cells #[.bool false] 4)) 22 #[.slice A l.length cap]
    simpa only [World.size_alloc] using this
  have hB : Below w.heap.size w wR := by
    rw [hwR]
    exact (((((Below.refl _ _).alloc (Nat.le_refl _) _).alloc (by simp) _).alloc (by simp; omega) _).alloc (by simp; omega) _).alloc (by simp; omega) _
  rw [← hwR]
  clear hwR
  have hR := ((h.more (T := fun b => b < w.heap.size) (fun _ hb _ => hb)).below hB).more (T := fun b => b < wR.heap.size) (fun b _ hb => by omega)
  obtain ⟨ys, hys, hst⟩ := back_stops 4 wR.heap.size (w.heap.size + 1 + 1 + 1 + 1) (by omega) (.slice A l.length cap) l wR (Nat.le_refl _) (by omega) (k8.cell 0) hR
  refine wpIn_rangeFunc_ownH rfl (by omega) (gf := 82) (lb := #[.pointer (some ⟨w.heap.size + 1 + 1 + 1 + 1, 0, none⟩)]) rfl trivial egBack hst belowK_t (belowK_b (Nat.le_refl _)) (Below.refl _ _) (fun _ => rfl)
    (LookI vol s w wR wR.heap.size l) (LookX vol s w wR wR.heap.size l) (lookI_own _ _ _ _ _ _ (by omega)) (fun c => lookX_own _ _ _ _ _ _ (by omega) c) ⟨by simp, ⟨k4, k5, k6, k7⟩, hB, Below.refl _ _, Nat.le_refl _⟩
    (fun y a' W => ∃ Bx, wR.heap.size ≤ Bx ∧ Blk W Bx 35 #[.int .i64 y.1.x.vol, .int .i64 y.1.x.start, y.1.dv] ∧ a' = { tmps := #[.slice A l.length cap, .int .i64 vol, .int .i64 s, undef, .pointer (some ⟨w.heap.size, 0, none⟩), .pointer (some ⟨w.heap.size + 1, 0, none⟩), .pointer (some ⟨w.heap.size + 1 + 1, 0, none⟩), .pointer (some ⟨w.heap.size + 1 + 1 + 1, 0, none⟩), undef, .pointer (some ⟨Bx, 0, none⟩), undef, .slice A l.length cap, .func (.func 82) #[] #[.pointer (some ⟨w.heap.size + 1 + 1 + 1 + 1, 0, none⟩)], .int .i64 y.1.k, .agg #[.int .i64 y.1.x.vol, .int .i64 y.1.x.start, y.1.dv], undef, undef, undef, undef, undef, undef, undef, undef, undef, undef, undef, undef, undef, undef, undef, undef, undef, undef, undef, undef, undef, undef, undef, undef, undef, undef, undef, undef], defers := [] })
    ?ax ?assign ?body ?done ?stop
  case ax =>
    rintro y a' _ X Y row ⟨Bx, hle, hb, rfl⟩ hg hr
    exact ⟨Bx, hle, blk_own hb hg (fun r e => (hr r e).2), rfl⟩
  case assign =>
    intro lp pre y W K hi hK
    obtain ⟨_, _, _, _, Ay, cy, y5⟩ := y.2
    have hi' := hi
    obtain ⟨_, _, _, _, hsW⟩ := hi'
    have hK' := fun a' W' => hK a' W'
    rw [y5] at hK'
    unfold encYd
    rw [y5]
    gi_wp2
    exact hK' _ _ ((KeepsOthers.alloc _ _).from _) ((Below.refl _ _).alloc hsW _) ((lookI_own _ _ _ _ _ _ (by omega)).alloc _ hi) ⟨W.heap.size, hsW, Blk.new _ _ _, rfl⟩
  case body =>
    rintro lp pre y a' W hlp hrec ⟨h1, ⟨b4, b5, b6, b7⟩, hbw, hbR, hsW⟩ ⟨Bx, hle, hbx, rfl⟩ hlen
    obtain ⟨y1, y2, y3, y4, Ay, cy, y5⟩ := y.2
    rw [y5] at hbx y4 ⊢
    obtain ⟨q0, q1, q2, q3, q4, q5⟩ := hbx.three
    obtain ⟨v0, v1⟩ := b4.one
    obtain ⟨u0, u1⟩ := b5.one
    unfold In64 at h3 h4 y2 y3
    have HSZ := Lib.hid hsz
    clear hsz
    have hIs : LookI vol s w wR wR.heap.size l (pre ++ [y]) W ∨ True := .inr trivial
    have hcont : y.1.x.at? vol s = none → LookI vol s w wR wR.heap.size l (pre ++ [y]) W := fun hn => ⟨fun z hz => by
      rcases List.mem_append.1 hz with hz | hz
      · exact h1 z hz
      · obtain rfl := List.mem_singleton.1 hz; exact hn, ⟨b4, b5, b6, b7⟩, hbw, hbR, hsW⟩
    have HC := Lib.hid hcont
    clear hcont hIs
    by_cases g1 : y.1.x.vol = vol
    · have t1 : (y.1.x.vol != vol) = false := by simpa using g1
      by_cases g2 : s < y.1.x.start
      · have t2 := decide_eq_true g2
        gi_wp2
        exact ⟨KeepsFrom.refl _ _, Below.refl _ _, HC.out (at?_none_of (by omega))⟩
      · have t2 := decide_eq_false g2
        obtain ⟨j, hj⟩ := Int.eq_ofNat_of_zero_le (show 0 ≤ s - y.1.x.start by omega)
        have hcap2 : y.1.x.data.length ≤ 9223372036854775807 := by
          obtain ⟨A', c', hv', hh1, hh2⟩ := y4.val
          unfold maxLen at hh2; omega
        have e1 : IntKind.u64.wrap (IntKind.u64.wrap s - IntKind.u64.wrap y.1.x.start) = (j : Int) := by rw [wrapU, wrapU, wrapU]; omega
        have e2 : IntKind.u64.wrap (y.1.x.data.length : Int) = (y.1.x.data.length : Int) := by rw [wrapU]; omega
        by_cases g3 : j < y.1.x.data.length
        · have t3 := decide_eq_true (show (j : Int) < (y.1.x.data.length : Int) by omega)
          obtain ⟨u, hu⟩ : ∃ u, y.1.x.data[j]? = some u := ⟨_, List.getElem?_eq_getElem g3⟩
          obtain ⟨b2, off2, cs2, hA2, hbl2, _, hl2, hc2, hr2⟩ := y4.at_ hu
          obtain rfl : cs2 = secCells u := hr2
          subst hA2
          have f0 := (hbR.cell (p := ⟨b2, off2 + j * 8 + 0, none⟩) hbl2).trans (hc2 0 (by omega))
          have f1 := (hbR.cell (p := ⟨b2, off2 + j * 8 + 1, none⟩) hbl2).trans (hc2 1 (by omega))
          have f2 := (hbR.cell (p := ⟨b2, off2 + j * 8 + 2, none⟩) hbl2).trans (hc2 2 (by omega))
          have f3 := (hbR.cell (p := ⟨b2, off2 + j * 8 + 3, none⟩) hbl2).trans (hc2 3 (by omega))
          have f4 := (hbR.cell (p := ⟨b2, off2 + j * 8 + 4, none⟩) hbl2).trans (hc2 4 (by omega))
          have f5 := (hbR.cell (p := ⟨b2, off2 + j * 8 + 5, none⟩) hbl2).trans (hc2 5 (by omega))
          have f6 := (hbR.cell (p := ⟨b2, off2 + j * 8 + 6, none⟩) hbl2).trans (hc2 6 (by omega))
          have f7 := (hbR.cell (p := ⟨b2, off2 + j * 8 + 7, none⟩) hbl2).trans (hc2 7 (by omega))
          clear hc2 hl2
          simp [secCells] at f0 f1 f2 f3 f4 f5 f6 f7
          obtain ⟨m0, m1, m2, m3, m4, m5, m6, m7, _⟩ := Blk.eight b6
          obtain ⟨n0, n1⟩ := b7.one
          have hat : y.1.x.at? vol s = some u := by
            rw [at?_some_of ⟨g1, by omega, by omega⟩, hj]
            simp [List.getD_eq_getElem?_getD, hu]
          have HAT := Lib.hid hat
          have HH1 := Lib.hid h1
          have hsw : w.heap.size ≤ W.heap.size := hbw.size
          clear hat hu h1 hj
          gi_wp2
          refine ⟨(((((((((KeepsOthers.setCell W ⟨w.heap.size + 1 + 1, 0, none⟩ (.int .u8 u.b0)).trans (KeepsOthers.setCell _ ⟨w.heap.size + 1 + 1, 1, none⟩ (.int .u8 u.b1))).trans (KeepsOthers.setCell _ ⟨w.heap.size + 1 + 1, 2, none⟩ (.int .u8 u.b2))).trans (KeepsOthers.setCell _ ⟨w.heap.size + 1 + 1, 3, none⟩ (.int .u8 u.b3))).trans (KeepsOthers.setCell _ ⟨w.heap.size + 1 + 1, 4, none⟩ (.int .u8 u.b4))).trans (KeepsOthers.setCell _ ⟨w.heap.size + 1 + 1, 5, none⟩ (.int .u8 u.b5))).trans (KeepsOthers.setCell _ ⟨w.heap.size + 1 + 1, 6, none⟩ (.int .u8 u.b6))).trans (KeepsOthers.setCell _ ⟨w.heap.size + 1 + 1, 7, none⟩ (.int .u8 u.b7))).trans (KeepsOthers.setCell _ ⟨w.heap.size + 1 + 1 + 1, 0, none⟩ (.bool true))).from _, pre, y, u, rfl, rfl, HH1.out, HAT.out, ⟨by simpa using (Blk.far ((((((((b6.set_ 0 (.int .u8 u.b0)).set_ 1 (.int .u8 u.b1)).set_ 2 (.int .u8 u.b2)).set_ 3 (.int .u8 u.b3)).set_ 4 (.int .u8 u.b4)).set_ 5 (.int .u8 u.b5)).set_ 6 (.int .u8 u.b6)).set_ 7 (.int .u8 u.b7)) (p := ⟨w.heap.size + 1 + 1 + 1, 0, none⟩) (by simp) (.bool true)), by simpa using ((Blk.far (Blk.far (Blk.far (Blk.far (Blk.far (Blk.far (Blk.far (b7.far (p := ⟨w.heap.size + 1 + 1, 0, none⟩) (by simp) (.int .u8 u.b0)) (p := ⟨w.heap.size + 1 + 1, 1, none⟩) (by simp) (.int .u8 u.b1)) (p := ⟨w.heap.size + 1 + 1, 2, none⟩) (by simp) (.int .u8 u.b2)) (p := ⟨w.heap.size + 1 + 1, 3, none⟩) (by simp) (.int .u8 u.b3)) (p := ⟨w.heap.size + 1 + 1, 4, none⟩) (by simp) (.int .u8 u.b4)) (p := ⟨w.heap.size + 1 + 1, 5, none⟩) (by simp) (.int .u8 u.b5)) (p := ⟨w.heap.size + 1 + 1, 6, none⟩) (by simp) (.int .u8 u.b6)) (p := ⟨w.heap.size + 1 + 1, 7, none⟩) (by simp) (.int .u8 u.b7)).set_ 0 (.bool true))⟩, (((((((((hbw.setCell (p := ⟨w.heap.size + 1 + 1, 0, none⟩) (by simp; omega) (.int .u8 u.b0)).setCell (p := ⟨w.heap.size + 1 + 1, 1, none⟩) (by simp; omega) (.int .u8 u.b1)).setCell (p := ⟨w.heap.size + 1 + 1, 2, none⟩) (by simp; omega) (.int .u8 u.b2)).setCell (p := ⟨w.heap.size + 1 + 1, 3, none⟩) (by simp; omega) (.int .u8 u.b3)).setCell (p := ⟨w.heap.size + 1 + 1, 4, none⟩) (by simp; omega) (.int .u8 u.b4)).setCell (p := ⟨w.heap.size + 1 + 1, 5, none⟩) (by simp; omega) (.int .u8 u.b5)).setCell (p := ⟨w.heap.size + 1 + 1, 6, none⟩) (by simp; omega) (.int .u8 u.b6)).setCell (p := ⟨w.heap.size + 1 + 1, 7, none⟩) (by simp; omega) (.int .u8 u.b7)).setCell (p := ⟨w.heap.size + 1 + 1 + 1, 0, none⟩) (by simp; omega) (.bool true)), by simp; exact hsw⟩
        · have t3 := decide_eq_false (show ¬ (j : Int) < (y.1.x.data.length : Int) by omega)
          gi_wp2
          exact ⟨KeepsFrom.refl _ _, Below.refl _ _, HC.out (at?_none_of (by omega))⟩
    · have t1 : (y.1.x.vol != vol) = true := by simpa using g1
      gi_wp2
      exact ⟨KeepsFrom.refl _ _, Below.refl _ _, HC.out (at?_none_of (by omega))⟩
  case done =>
    rintro D zs W hD rfl ⟨h1, ⟨b4, b5, b6, b7⟩, hbw, hbR, hsW⟩ hK
    have he : eff l vol s = none := by
      rw [eff_rev, ← hys, List.findSome?_map, List.findSome?_eq_none_iff]
      exact fun y hy => h1 y hy
    obtain ⟨m0, m1, m2, m3, m4, m5, m6, m7, _⟩ := Blk.eight b6
    obtain ⟨n0, n1⟩ := b7.one
    gi_wp2
    have hD' : w.heap.size ≤ D := by omega
    have hsw : w.heap.size ≤ W.heap.size := hbw.size
    have hK' := (((((((((KeepsOthers.setCell W ⟨w.heap.size + 1 + 1, 0, none⟩ (.int .u8 0)).trans (KeepsOthers.setCell _ ⟨w.heap.size + 1 + 1, 1, none⟩ (.int .u8 0))).trans (KeepsOthers.setCell _ ⟨w.heap.size + 1 + 1, 2, none⟩ (.int .u8 0))).trans (KeepsOthers.setCell _ ⟨w.heap.size + 1 + 1, 3, none⟩ (.int .u8 0))).trans (KeepsOthers.setCell _ ⟨w.heap.size + 1 + 1, 4, none⟩ (.int .u8 0))).trans (KeepsOthers.setCell _ ⟨w.heap.size + 1 + 1, 5, none⟩ (.int .u8 0))).trans (KeepsOthers.setCell _ ⟨w.heap.size + 1 + 1, 6, none⟩ (.int .u8 0))).trans (KeepsOthers.setCell _ ⟨w.heap.size + 1 + 1, 7, none⟩ (.int .u8 0))).trans (KeepsOthers.setCell _ ⟨w.heap.size + 1 + 1 + 1, 0, none⟩ (.bool false))).same D _ hK rfl
    have q6 := (Blk.far ((((((((b6.set_ 0 (.int .u8 0)).set_ 1 (.int .u8 0)).set_ 2 (.int .u8 0)).set_ 3 (.int .u8 0)).set_ 4 (.int .u8 0)).set_ 5 (.int .u8 0)).set_ 6 (.int .u8 0)).set_ 7 (.int .u8 0)) (p := ⟨w.heap.size + 1 + 1 + 1, 0, none⟩) (by simp) (.bool false))
    have q7 := ((Blk.far (Blk.far (Blk.far (Blk.far (Blk.far (Blk.far (Blk.far (Blk.far b7 (p := ⟨w.heap.size + 1 + 1, 0, none⟩) (by simp) (.int .u8 0)) (p := ⟨w.heap.size + 1 + 1, 1, none⟩) (by simp) (.int .u8 0)) (p := ⟨w.heap.size + 1 + 1, 2, none⟩) (by simp) (.int .u8 0)) (p := ⟨w.heap.size + 1 + 1, 3, none⟩) (by simp) (.int .u8 0)) (p := ⟨w.heap.size + 1 + 1, 4, none⟩) (by simp) (.int .u8 0)) (p := ⟨w.heap.size + 1 + 1, 5, none⟩) (by simp) (.int .u8 0)) (p := ⟨w.heap.size + 1 + 1, 6, none⟩) (by simp) (.int .u8 0)) (p := ⟨w.heap.size + 1 + 1, 7, none⟩) (by simp) (.int .u8 0)).set_ 0 (.bool false))
    have qB := (((((((((hbw.setCell (p := ⟨w.heap.size + 1 + 1, 0, none⟩) (by simp; omega) (.int .u8 0)).setCell (p := ⟨w.heap.size + 1 + 1, 1, none⟩) (by simp; omega) (.int .u8 0)).setCell (p := ⟨w.heap.size + 1 + 1, 2, none⟩) (by simp; omega) (.int .u8 0)).setCell (p := ⟨w.heap.size + 1 + 1, 3, none⟩) (by simp; omega) (.int .u8 0)).setCell (p := ⟨w.heap.size + 1 + 1, 4, none⟩) (by simp; omega) (.int .u8 0)).setCell (p := ⟨w.heap.size + 1 + 1, 5, none⟩) (by simp; omega) (.int .u8 0)).setCell (p := ⟨w.heap.size + 1 + 1, 6, none⟩) (by simp; omega) (.int .u8 0)).setCell (p := ⟨w.heap.size + 1 + 1, 7, none⟩) (by simp; omega) (.int .u8 0)).setCell (p := ⟨w.heap.size + 1 + 1 + 1, 0, none⟩) (by simp; omega) (.bool false))
    simp at q6 q7
    generalize (((((((((W.setCell ⟨w.heap.size + 1 + 1, 0, none⟩ (.int .u8 0)).setCell ⟨w.heap.size + 1 + 1, 1, none⟩ (.int .u8 0)).setCell ⟨w.heap.size + 1 + 1, 2, none⟩ (.int .u8 0)).setCell ⟨w.heap.size + 1 + 1, 3, none⟩ (.int .u8 0)).setCell ⟨w.heap.size + 1 + 1, 4, none⟩ (.int .u8 0)).setCell ⟨w.heap.size + 1 + 1, 5, none⟩ (.int .u8 0)).setCell ⟨w.heap.size + 1 + 1, 6, none⟩ (.int .u8 0)).setCell ⟨w.heap.size + 1 + 1, 7, none⟩ (.int .u8 0)).setCell ⟨w.heap.size + 1 + 1 + 1, 0, none⟩ (.bool false)) = w9 at hK' q6 q7 qB ⊢
    refine ⟨by simp, .inl ⟨_, _, rfl, run_takeDeferred hK', ?_⟩⟩
    have r6 := blk_own q6 (grownBy_putObj' _ D (.deferred none)) (fun r e => by cases e; exact ⟨_, hK', rfl⟩)
    have r7 := blk_own q7 (grownBy_putObj' _ D (.deferred none)) (fun r e => by cases e; exact ⟨_, hK', rfl⟩)
    obtain ⟨_, _, _, _, _, _, _, _, a0, a1, a2, a3, a4, a5, a6, a7⟩ := Blk.eight r6
    obtain ⟨x0, x1⟩ := r7.one
    have rB := qB.grown (grownBy_putObj' _ D (.deferred none)) (by have := qB.size; omega) (fun j e => by cases e; exact hD')
    exact ⟨.tuple #[secV Sec.zero, .bool false], by simp [results, Try.results27, go_sem, a0, a1, a2, a3, a4, a5, a6, a7, x0, secV, Sec.zero], false, by rw [he]; rfl, by rw [he]; rfl, rB⟩
  case stop =>
    rintro D c pre W hD hpre ⟨p', x, y, rfl, rfl, h3', h4', ⟨h5, h6⟩, h7, h8⟩ hK
    have he : eff l vol s = some y := by
      obtain ⟨t, ht⟩ := hpre
      rw [eff_rev, ← hys, ← ht, List.findSome?_map, List.findSome?_append, List.findSome?_append]
      have e1 : List.findSome? ((fun w => w.at? vol s) ∘ fun y => y.1.x) p' = none := List.findSome?_eq_none_iff.2 fun z hz => h3' z hz
      rw [e1]
      simp [h4']
    obtain ⟨m0, m1, m2, m3, m4, m5, m6, m7, m8⟩ := Blk.eight h5
    obtain ⟨n0, n1⟩ := h6.one
    gi_wp2
    refine ⟨by simp, .inl ⟨_, _, rfl, run_takeDeferred hK, ?_⟩⟩
    have r6 := blk_own h5 (grownBy_putObj' _ D (.deferred none)) (fun r e => by cases e; exact ⟨_, hK, rfl⟩)
    have r7 := blk_own h6 (grownBy_putObj' _ D (.deferred none)) (fun r e => by cases e; exact ⟨_, hK, rfl⟩)
    obtain ⟨_, _, _, _, _, _, _, _, a0, a1, a2, a3, a4, a5, a6, a7⟩ := Blk.eight r6
    obtain ⟨x0, x1⟩ := r7.one
    have rB := h7.grown (grownBy_putObj' _ D (.deferred none)) h8 (fun j e => by cases e; omega)
    exact ⟨.tuple #[secV y, .bool true], by simp [results, Try.results27, go_sem, a0, a1, a2, a3, a4, a5, a6, a7, x0, secV], true, by rw [he]; rfl, by rw [he]; rfl, rB⟩
end Go.Proofs.Ytoifinmcoldidaa
