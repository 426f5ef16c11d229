import Derived.Test.YtoifinmcoldidaaC20
import Derived.Test.YtoifinmcoldidaaR6
set_option maxRecDepth 100000
set_option linter.unusedVariables false
set_option linter.unusedSimpArgs false
namespace Go.Proofs.Ytoifinmcoldidaa
open Go.RowKit Go.Mm Sb

/-! ### CoalesceFolds -/
set_option maxHeartbeats 4000000 in
theorem folds_any (va : Value) (a : List Wr) (w : World) (ha : RWrs w Any va a) :
    Calls Try.prog 3 #[va] w fun e w' => e = .returned (.bool true) ∧ Below w.heap.size w w' := by
  have G0 : Below w.heap.size w w := Below.refl _ _
  go_enter Try.func3, Try.ntmps3
  go_wp2_with fail
  refine (few_any va a _ Any (ha.below G0)).mono ?_
  rintro e w1 ⟨q1, rfl, f1, B1⟩
  have G1 := below_then G0 G0.size B1
  cases q1 with
  | false =>
    go_wp2_with (first | (go_at_call 13; refine (awake_any _).mono ?_; rintro e w99 ⟨rfl, B99⟩))
    go_ret
    exact ⟨rfl, below_then G1 G1.size B99⟩
  | true =>
    replace f1 := f1 rfl
    go_wp2_with fail
    have c1 := fold_any va a w1 Any (ha.below G1) (few_sec f1)
    refine c1.mono ?_
    rintro e w2 ⟨v2, rfl, X2, B2⟩
    have G2 := below_then G1 G1.size B2
    replace X2 : RWrs w2 Any v2 (foldR a) := X2.more (fun _ _ _ => trivial)
    go_wp2_with fail
    have c2 := refFold_any va a w2 Any (ha.below G2)
    refine c2.mono ?_
    rintro e w3 ⟨v3, rfl, X3, B3⟩
    have G3 := below_then G2 G2.size B3
    replace X3 : RWrs w3 Any v3 (foldR a) := X3.more (fun _ _ _ => trivial)
    replace X2 := X2.below B3
    go_wp2_with fail
    refine (same22_any v2 v3 _ _ w3 Any X2 X3).mono ?_
    rintro e w4 ⟨rfl, B4⟩
    rw [show decide (foldR a = foldR a) = true from decide_eq_true rfl]
    have G4 := below_then G3 G3.size B4
    go_wp2_with (first | (go_at_call 13; refine (awake_any _).mono ?_; rintro e w99 ⟨rfl, B99⟩))
    go_ret
    exact ⟨rfl, below_then G4 G4.size B99⟩
end Go.Proofs.Ytoifinmcoldidaa
