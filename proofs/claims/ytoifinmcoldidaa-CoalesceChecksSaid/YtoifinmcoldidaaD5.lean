import Derived.Test.YtoifinmcoldidaaI5
import Derived.Test.YtoifinmcoldidaaC19
set_option maxRecDepth 100000
set_option linter.unusedVariables false
set_option linter.unusedSimpArgs false
namespace Go.Proofs.Ytoifinmcoldidaa
open Go.RowKit Go.Mm Sb

/-! ### CoalesceChecks -/
set_option maxHeartbeats 4000000 in
theorem checks_any (va vs : Value) (a : List Wr) (sizes : List Int) (w : World) (ha : RWrs w Any va a) (hs : RInts w Any vs sizes) :
    Calls Try.prog 7 #[va, vs] w fun e w' => e = .returned (.bool true) ∧ Below w.heap.size w w' := by
  have G0 : Below w.heap.size w w := Below.refl _ _
  obtain ⟨A, cap, rfl, hcap, hm⟩ := hs.val
  unfold maxLen at hm
  go_enter Try.func7, Try.ntmps7
  go_wp2_with fail
  refine (few_any va a _ Any (ha.below G0)).mono ?_
  rintro e w1 ⟨q1, rfl, f1, B1⟩
  have G1 := below_then G0 G0.size B1
  cases q1 with
  | false =>
    go_wp2_with (first | (go_at_call 13; refine (awake_any _).mono ?_; rintro e w99 ⟨rfl, B99⟩))
    go_ret
    exact ⟨rfl, below_then G1 G1.size B99⟩
  | true =>
    clear f1
    by_cases h20 : 20 < sizes.length
    · have t2 := decide_eq_true (show (20 : Int) < (sizes.length : Int) by omega)
      go_wp2_with (first | (go_at_call 13; refine (awake_any _).mono ?_; rintro e w99 ⟨rfl, B99⟩))
      go_ret
      exact ⟨rfl, below_then G1 G1.size B99⟩
    · have t2 := decide_eq_false (show ¬ (20 : Int) < (sizes.length : Int) by omega)
      go_wp2_with fail
      refine (chkC_any va _ a sizes w1 Any Any (ha.below G1) (hs.below G1)).mono ?_
      rintro e w2 ⟨rfl, B2⟩
      have G2 := below_then G1 G1.size B2
      go_wp2_with fail
      refine (refCheck_any va _ a sizes w2 Any Any (ha.below G2) (hs.below G2)).mono ?_
      rintro e w3 ⟨rfl, B3⟩
      have G3 := below_then G2 G2.size B3
      go_wp2_with (first | (go_at_call 13; refine (awake_any _).mono ?_; rintro e w99 ⟨rfl, B99⟩))
      go_ret
      exact ⟨rfl, below_then G3 G3.size B99⟩
end Go.Proofs.Ytoifinmcoldidaa
