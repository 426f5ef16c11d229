import Derived.Test.YtoifinmcoldidaaC20
import Derived.Test.YtoifinmcoldidaaR4
import Derived.RangeFuncNested
import Derived.RangeFuncBound
import Derived.RangeFuncCalls
import Derived.RangeFuncLeaves
import Derived.Shelf.Abstract
import Derived.Shelf.RegionOpen
import Derived.WalkKit
import Derived.OwnWalkIn
import Derived.TacticsInMore
import Derived.LoopNIn
import Derived.LoopIn
set_option maxRecDepth 100000
set_option linter.unusedVariables false
set_option linter.unusedSimpArgs false
namespace Go.Proofs.Ytoifinmcoldidaa
open Go.RowKit Go.Mm Sb
attribute [local go_sem] Oper.semAt_some

/-! ### slices.Backward -/
/-- The k-th last write, as it is yielded: its place, and how it lies. -/
structure Yd where
  k : Nat
  x : Wr
  dv : Value
def encYd (y : Yd) : Array Value := #[.int .i64 y.k, .agg #[.int .i64 y.x.vol, .int .i64 y.x.start, y.dv]]
/-- What a yielded write may be: an element of the list. -/
abbrev YdOf (n₀ : Nat) (w : World) (l : List Wr) := { y : Yd // l[y.k]? = some y.x ∧ In64 y.x.vol ∧ In64 y.x.start ∧ RSecs w (fun b => b < n₀) y.dv y.x.data ∧ (∃ A c, y.dv = .slice A y.x.data.length c) }
set_option maxHeartbeats 4000000 in
theorem back_stops (n n₀ Bs : Nat) (h1 : 1 ≤ n) (v : Value) (l : List Wr) (w : World) (hn₀ : n₀ ≤ w.heap.size) (hBs : Bs < n₀) (hc : w.cell? ⟨Bs, 0, none⟩ = some v) (h : RWrs w (fun b => b < n₀) v l) :
    ∃ ys : List (YdOf n₀ w l), ys.map (fun y => y.1.x) = l.reverse ∧
      SeqStopsK Fence.wide n Try.prog 82 #[.pointer (some ⟨Bs, 0, none⟩)] (fun y : YdOf n₀ w l => encYd y.1) (Below n₀) (fun xs => xs = ys) (fun pre => pre <+: ys) l.length w := by
  obtain ⟨A, cap, rfl, hcap, hm⟩ := h.val
  unfold maxLen at hm
  have hel : ∀ k : Fin l.length, ∃ y : YdOf n₀ w l, y.1.k = k.1 ∧ ∃ b off, A = some ⟨b, off, none⟩ ∧ b < n₀ ∧ w.cell? ⟨b, off + k.1 * 3, none⟩ = some (.int .i64 y.1.x.vol) ∧ w.cell? ⟨b, off + k.1 * 3 + 1, none⟩ = some (.int .i64 y.1.x.start) ∧ w.cell? ⟨b, off + k.1 * 3 + 2, none⟩ = some y.1.dv := fun k => by
    obtain ⟨b, off, cs, hA, hbl, hb, _, hc, h1, h2, dv, rfl, hd⟩ := h.at_ (List.getElem?_eq_getElem k.2)
    obtain ⟨Ad, c, hdv, _, _⟩ := hd.val
    exact ⟨⟨⟨k.1, l[k.1], dv⟩, List.getElem?_eq_getElem k.2, h1, h2, hd, Ad, c, hdv⟩, rfl, b, off, hA, hb, hc 0 (by omega), hc 1 (by omega), hc 2 (by omega)⟩
  obtain ⟨f, hf⟩ := Classical.axiomOfChoice hel
  have hidx : ∀ m, m < l.length → l.length - 1 - m < l.length := fun m hm => by omega
  let ys : List (YdOf n₀ w l) := (List.range l.length).attach.map fun m => f ⟨l.length - 1 - m.1, hidx m.1 (List.mem_range.1 m.2)⟩
  have hyl : ys.length = l.length := by simp [ys]
  have hyg : ∀ m (hm : m < l.length), ys[m]? = some (f ⟨l.length - 1 - m, hidx m hm⟩) := fun m hm => by
    simp only [ys, List.getElem?_map]
    rw [List.getElem?_eq_getElem (by simpa using hm)]
    simp
  refine ⟨ys, ?_, fun lp J Jx W hW hJ hJx hY h0 => ?_⟩
  · refine List.ext_getElem? fun m => ?_
    by_cases hm : m < l.length
    · rw [List.getElem?_map, hyg m hm, List.getElem?_reverse hm]
      have h1 := (f ⟨l.length - 1 - m, hidx m hm⟩).2.1
      rw [(hf ⟨l.length - 1 - m, hidx m hm⟩).1] at h1
      exact h1.symm
    · rw [List.getElem?_eq_none (by rw [List.length_map, hyl]; omega), List.getElem?_eq_none (by rw [List.length_reverse]; omega)]
  have hc' := (hW.cell (p := ⟨Bs, 0, none⟩) (by show Bs < _; omega)).trans hc
  have hYS := Lib.hid hyg
  have hYL := Lib.hid hyl
  clear hyg hyl
  clear_value ys
  refine callsIn_of_wp Try.func82 rfl trivial ?_ rfl
  simp only [Try.ntmps82, List.size_toArray, List.length_cons, List.length_nil, Nat.reduceAdd, Nat.reduceSub, Array.replicate_succ, Array.replicate_zero, List.push_toArray, List.append_toArray, List.nil_append, List.cons_append]
  gi_wp2
  gi_loopw [3] (fun i wr => ∃ m : Nat, m ≤ l.length ∧ i = .int .i64 ((l.length : Int) - 1 - m) ∧ J (ys.take m) wr ∧ Below n₀ W wr) (fun i _ => (intOf i + 1).toNat)
  case atStart => exact ⟨0, Nat.zero_le _, by simp, h0, Below.refl _ _⟩
  case round =>
    obtain ⟨m, hm0, rfl, hJs, hnx⟩ := hrel
    have hcB := (hnx.cell (p := ⟨Bs, 0, none⟩) hBs).trans hc'
    by_cases hlt : m < l.length
    · obtain ⟨k, hk⟩ : ∃ k, k = l.length - 1 - m := ⟨_, rfl⟩
      have ek : (l.length : Int) - 1 - m = (k : Int) := by omega
      rw [ek]
      have hg := hYS.out m hlt
      obtain ⟨fk, b, off, rfl, hb, c0, c1, c2⟩ := hf ⟨l.length - 1 - m, hidx m hlt⟩
      generalize f ⟨l.length - 1 - m, hidx m hlt⟩ = y at *
      dsimp only at *
      rw [← hk] at fk c0 c1 c2
      have e0 := ((hW.mono hn₀).cell (p := ⟨b, off + k * 3, none⟩) hb).trans c0
      have e1 := ((hW.mono hn₀).cell (p := ⟨b, off + k * 3 + 1, none⟩) hb).trans c1
      have e2 := ((hW.mono hn₀).cell (p := ⟨b, off + k * 3 + 2, none⟩) hb).trans c2
      have d0 := (hnx.cell (p := ⟨b, off + k * 3, none⟩) hb).trans e0
      have d1 := (hnx.cell (p := ⟨b, off + k * 3 + 1, none⟩) hb).trans e1
      have d2 := (hnx.cell (p := ⟨b, off + k * 3 + 2, none⟩) hb).trans e2
      obtain ⟨fn, tmps, assign, body, hy, hR⟩ := hY _ y wr hJs (by rw [List.length_take, hYL.out]; omega)
      unfold encYd at hy
      try dsimp only at hy
      rw [fk] at hy
      have hkl : k < l.length := by omega
      obtain ⟨_, _, _, _, Ay, cy, hdy⟩ := y.2
      rw [hdy] at d2 hy
      have HK := Lib.hid hk
      have HG := Lib.hid hg
      clear c0 c1 c2 e0 e1 e2 hk hg fk ek hf hel
      gi_wp2
      refine hR.mono ?_
      rintro e W3 (⟨rfl, hJ3, hk3⟩ | ⟨rfl, hJx3⟩)
      · gi_wp2
        go_roundw
        case rel =>
          refine ⟨m + 1, by omega, ?_, ?_, hnx.trans hk3⟩
          · have := HK.out; simp; omega
          · rw [List.take_add_one, HG.out]; exact hJ3
        case measure => simp [intOf]
      · gi_wp2
        refine bodyPost_ret (results_none rfl _ _ _) rfl ?_
        refine ⟨⟨_, rfl⟩, .inr ⟨_, ?_, hJx3⟩⟩
        have : ys.take m ++ [y] = ys.take (m + 1) := by rw [List.take_add_one, HG.out]; rfl
        rw [this]; exact List.take_prefix _ _
    · obtain rfl : m = l.length := by omega
      have ek : (l.length : Int) - 1 - l.length = -1 := by omega
      rw [ek]
      rw [List.take_of_length_le (by rw [hYL.out]; exact Nat.le_refl _)] at hJs
      clear hf hel
      gi_wp2
      go_end0
      exact ⟨⟨_, rfl⟩, .inl ⟨_, rfl, hJs⟩⟩
end Go.Proofs.Ytoifinmcoldidaa
