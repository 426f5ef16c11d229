import Derived.Test.YtoifinmcoldidaaC10
import Derived.Test.YtoifinmcoldidaaMaths
set_option maxRecDepth 100000
set_option linter.unusedVariables false
set_option linter.unusedSimpArgs false
namespace Go.Proofs.Ytoifinmcoldidaa
open Go.RowKit Go.Mm Sb

/-! ### extents -/
def RExt : ERel Ext := fun _ _ cs x => In64 x.start ∧ In64 x.count ∧ cs = [.int .i64 x.start, .int .i64 x.count]
instance : Steady RExt := ⟨fun h _ => h, fun h _ => h⟩
abbrev RExts := RSl 2 RExt
def WithinIs (x : Ext) (f t : Int) (ok : Bool) : Prop := if ok then within x = some (f, t) else within x = none
def WRet (x : Ext) (w : World) (e : Ending) (w' : World) : Prop := ∃ f t ok, e = .returned (.tuple #[.int .i64 f, .int .i64 t, .bool ok]) ∧ WithinIs x f t ok ∧ Below w.heap.size w w'
set_option maxHeartbeats 2000000 in
theorem within_any (x : Ext) (w : World) (h1 : In64 x.start) (h2 : In64 x.count) :
    Calls Try.prog 62 #[.agg #[.int .i64 x.start, .int .i64 x.count]] w (WRet x w) := by
  obtain ⟨a, b⟩ := x
  simp only at h1 h2 ⊢
  obtain ⟨a1, a2⟩ := h1
  obtain ⟨b1, b2⟩ := h2
  by_cases hc : b ≤ 0
  · go_enter Try.func62, Try.ntmps62
    go_wp2
    exact bodyPost_ret (v := .tuple #[.int .i64 0, .int .i64 0, .bool false]) (by simp [results, Try.results62, go_sem]) rfl ⟨0, 0, false, rfl, by unfold WithinIs within; simp [hc], ((Below.refl _ _).alloc (Nat.le_refl _) _)⟩
  by_cases hs : a < 0
  · have t1 := decide_eq_true hs
    go_enter Try.func62, Try.ntmps62
    go_wp2
    exact bodyPost_ret (v := .tuple #[.int .i64 (max a 0), .int .i64 (min (a + b) 4096), .bool (decide ((max a 0) < (min (a + b) 4096)))]) (by simp [results, Try.results62, go_sem]) rfl ⟨_, _, _, rfl, by unfold WithinIs within; by_cases hh : (max a 0) < (min (a + b) 4096) <;> simp [hh] <;> omega, ((Below.refl _ _).alloc (Nat.le_refl _) _)⟩
  · have t1 := decide_eq_false hs
    by_cases hq : b < 4096 - a
    · have t2 := decide_eq_true hq
      go_enter Try.func62, Try.ntmps62
      go_wp2
      exact bodyPost_ret (v := .tuple #[.int .i64 (max a 0), .int .i64 (min (a + b) 4096), .bool (decide ((max a 0) < (min (a + b) 4096)))]) (by simp [results, Try.results62, go_sem]) rfl ⟨_, _, _, rfl, by unfold WithinIs within; by_cases hh : (max a 0) < (min (a + b) 4096) <;> simp [hh] <;> omega, ((Below.refl _ _).alloc (Nat.le_refl _) _)⟩
    · have t2 := decide_eq_false hq
      go_enter Try.func62, Try.ntmps62
      go_wp2
      exact bodyPost_ret (v := .tuple #[.int .i64 (max a 0), .int .i64 4096, .bool (decide ((max a 0) < 4096))]) (by simp [results, Try.results62, go_sem]) rfl ⟨_, _, _, rfl, by unfold WithinIs within; by_cases hh : (max a 0) < 4096 <;> simp [hh] <;> omega, ((Below.refl _ _).alloc (Nat.le_refl _) _)⟩
end Go.Proofs.Ytoifinmcoldidaa
