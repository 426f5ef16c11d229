import Derived.Test.YtccbbecfmfldbaaQ6
import Derived.Deep.RegionHeld3
import Derived.Sort.Grow
set_option maxRecDepth 100000
set_option linter.unusedVariables false
set_option linter.unusedSimpArgs false
namespace Go.Proofs.Ytccbbecfmfldbaa
open Go.RowKit Go.Mm Sb

def orI (a b : Int) : Int := if a = 0 then b else a
theorem or_any (a b : Int) (bb off : Nat) (cap : Nat) (w : World) (h0 : w.cell? ⟨bb, off, none⟩ = some (.int .i64 a)) (h1 : w.cell? ⟨bb, off + 1, none⟩ = some (.int .i64 b)) :
    Calls Try.prog 130 #[.slice (some ⟨bb, off, none⟩) 2 cap] w fun e w' => e = .returned (.int .i64 (orI a b)) ∧ w = w' := by
  go_enter Try.func130, Try.ntmps130
  go_wp2
  go_loop [5, 8] (fun x i => ∃ k : Nat, k ≤ 2 ∧ i = .int .i64 k ∧ (1 ≤ k → a = 0) ∧ (2 ≤ k → b = 0)) (fun _ i => 2 - (intOf i).toNat)
  case atStart => exact ⟨0, by omega, rfl, by omega, by omega⟩
  case round =>
    obtain ⟨k, hk, rfl, ha, hb⟩ := hrel
    match k, hk with
    | 0, _ =>
      by_cases hz : a = 0
      · subst hz
        clear ha hb
        go_wp2
        go_round
        case rel => exact ⟨1, by omega, rfl, by simp, by omega⟩
        case measure => simp [intOf]
      · have hz' : (a != 0) = true := by simpa using hz
        clear ha hb
        go_wp2
        go_ret
        exact ⟨ret_int (by unfold orI; rw [if_neg hz]), rfl⟩
    | 1, _ =>
      have h : a = 0 := ha (by omega)
      subst h
      by_cases hz : b = 0
      · subst hz
        clear ha hb
        go_wp2
        go_round
        case rel => exact ⟨2, by omega, rfl, by simp, by simp⟩
        case measure => simp [intOf]
      · have hz' : (b != 0) = true := by simpa using hz
        clear ha hb
        go_wp2
        go_ret
        exact ⟨ret_int (by unfold orI; simp), rfl⟩
    | 2, _ =>
      have h : a = 0 := ha (by omega)
      have h' : b = 0 := hb (by omega)
      subst h; subst h'
      clear ha hb
      go_wp2
      go_ret
      exact ⟨ret_int (by unfold orI; simp), rfl⟩

/-- Draws and new blocks alone. -/
def Grw (w w' : World) : Prop := ∃ q os', w' = Go.Sort.grow (w.drewN q) os'
theorem Grw.refl (w : World) : Grw w w := ⟨0, #[], by simp [Go.Sort.grow]; rfl⟩
theorem Grw.alloc {w W : World} (h : Grw w W) (o : Obj) : Grw w (W.alloc o) := by
  obtain ⟨q, os, rfl⟩ := h
  exact ⟨q, os ++ #[o], by rw [Go.Sort.alloc_eq_grow, Go.Sort.grow_grow]⟩
theorem Grw.drew {w W : World} (h : Grw w W) : Grw w W.drew := by
  obtain ⟨q, os, rfl⟩ := h
  exact ⟨q + 1, os, by rw [Go.Sort.drew_grow]; rfl⟩
theorem Grw.below {w W : World} (h : Grw w W) : Below w.heap.size w W := by
  obtain ⟨q, os, rfl⟩ := h
  have h1 : Below w.heap.size w (w.drewN q) := pw_below_drewN (Below.refl _ _) q
  refine h1.trans ⟨rfl, rfl, rfl, by simp [Go.Sort.grow], fun k hk => Go.Sort.heap_grow_old _ _ hk⟩
def beforeI (x y : SLoc) : Int := orI (cmpI x.1 y.1) (cmpI x.2 y.2)
set_option maxHeartbeats 1000000 in
theorem before_any (a b c d : Int) (w : World) :
    Calls Try.prog 127 #[.agg #[.int .i64 a, .int .i64 b], .agg #[.int .i64 c, .int .i64 d]] w fun e w' => e = .returned (.int .i64 (beforeI (a, b) (c, d))) ∧ Grw w w' := by
  unfold beforeI
  go_enter Try.func127, Try.ntmps127
  go_wp2_with fail
  go_region_held3 (fun w' => w'.cell? ⟨w.heap.size, 0, none⟩ = some (.int .i64 a) ∧ w'.cell? ⟨w.heap.size, 1, none⟩ = some (.int .i64 b) ∧ w'.cell? ⟨w.heap.size + 1, 0, none⟩ = some (.int .i64 c) ∧ w'.cell? ⟨w.heap.size + 1, 1, none⟩ = some (.int .i64 d))
    (first | go_keep)
    (first | (go_at_call 131; refine (compare_any _ _ _).mono ?_; rintro e w' ⟨rfl, rfl⟩) | (go_at_call 130; refine (or_any (cmpI a c) (cmpI b d) _ _ _ _ ?_ ?_).mono ?_; rotate_left 2; rintro e w' ⟨rfl, rfl⟩; rotate_left 1; go_simp; go_simp))
  go_wp2
  go_ret
  exact ⟨rfl, by first | exact (((Grw.refl _).alloc _).alloc _).drew.alloc _ | exact ((((Grw.refl _).alloc _).alloc _).alloc _).drew⟩
end Go.Proofs.Ytccbbecfmfldbaa
