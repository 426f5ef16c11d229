import Derived.Test.YtoifinmcoldidaaR9
import Derived.Test.YtoifinmcoldidaaD1
set_option maxRecDepth 100000
set_option linter.unusedVariables false
set_option linter.unusedSimpArgs false
namespace Go.Proofs.Ytoifinmcoldidaa
open Go.RowKit Go.Mm Sb

/-! ### CoalesceMerges -/
set_option maxHeartbeats 4000000 in
theorem merges_any (va vb : Value) (a b : List Wr) (w : World) (ha : RWrs w Any va a) (hb : RWrs w Any vb b) :
    Calls Try.prog 4 #[va, vb] w fun e w' => e = .returned (.bool true) ∧ Below w.heap.size w w' := by
  have G0 : Below w.heap.size w w := Below.refl _ _
  go_enter Try.func4, Try.ntmps4
  go_wp2_with fail
  refine (few_any va a _ Any (ha.below G0)).mono ?_
  rintro e w1 ⟨q1, rfl, f1, B1⟩
  have G1 := below_then G0 G0.size B1
  cases q1 with
  | false =>
    go_wp2_with (first | (go_at_call 13; refine (awake_any _).mono ?_; rintro e w99 ⟨rfl, B99⟩))
    go_ret
    exact ⟨rfl, below_then G1 G1.size B99⟩
  | true =>
    replace f1 := f1 rfl
    go_wp2_with fail
    refine (few_any vb b _ Any (hb.below G1)).mono ?_
    rintro e w2 ⟨q2, rfl, f2, B2⟩
    have G2 := below_then G1 G1.size B2
    cases q2 with
    | false =>
      go_wp2_with (first | (go_at_call 13; refine (awake_any _).mono ?_; rintro e w99 ⟨rfl, B99⟩))
      go_ret
      exact ⟨rfl, below_then G2 G2.size B99⟩
    | true =>
      replace f2 := f2 rfl
      go_wp2_with fail
      have s1 := few_sum f1.2
      have s2 := few_sum f2.2
      have n1 := f1.1
      have n2 := f2.1
      have c1 := merge_any va vb a b w2 Any (ha.below G2) (hb.below G2) (by omega) (by omega)
      clear s1 s2
      refine c1.mono ?_
      rintro e w3 ⟨v3, rfl, X3, B3⟩
      have G3 := below_then G2 G2.size B3
      replace X3 : RWrs w3 Any v3 (mergeR a b) := X3.more (fun _ _ _ => trivial)
      go_wp2_with fail
      have c2 := refMerge_any va vb a b w3 (ha.below G3) (hb.below G3) (by omega)
      refine c2.mono ?_
      rintro e w4 ⟨v4, rfl, X4, B4⟩
      have G4 := below_then G3 G3.size B4
      replace X4 : RWrs w4 Any v4 (mergeR a b) := X4.more (fun _ _ _ => trivial)
      replace X3 := X3.below B4
      go_wp2_with fail
      refine (same22_any v3 v4 _ _ w4 Any X3 X4).mono ?_
      rintro e w5 ⟨rfl, B5⟩
      rw [show decide (mergeR a b = mergeR a b) = true from decide_eq_true rfl]
      have G5 := below_then G4 G4.size B5
      go_wp2_with (first | (go_at_call 13; refine (awake_any _).mono ?_; rintro e w99 ⟨rfl, B99⟩))
      go_ret
      exact ⟨rfl, below_then G5 G5.size B99⟩
end Go.Proofs.Ytoifinmcoldidaa
