import Derived.Test.YtoifinmcoldidaaR9
import Derived.Test.YtoifinmcoldidaaR10
import Derived.Test.YtoifinmcoldidaaDv
set_option maxRecDepth 100000
set_option linter.unusedVariables false
set_option linter.unusedSimpArgs false
namespace Go.Proofs.Ytoifinmcoldidaa
open Go.RowKit Go.Mm Sb

/-! ### the reference: Restrict -/
theorem eff_markedOut {l : List Wr} (hp : AllPlaced l) {v : Int} (hv : ¬ (0 ≤ v ∧ v < 8)) (s : Int) (h0 : 0 ≤ s) (h1 : s < 4096) : markedBy l v s = false := by
  have : (eff l v s).isSome = markedBy l v s := by
    rw [eff_isSome]
    unfold markedBy
    congr 1
    funext w
    exact (holds_at w v s h0 h1).symm
  rw [← this, eff_bounded hp v s (fun hd => hv ⟨hd.1, hd.2.1⟩)]
  rfl
theorem restrictR_eq {l : List Wr} (hc : chkI plI none l = 0) (v : Int) (keep : List Ext) :
    pickW (eff l) v (runsE (fun s => memC (runsE (markedBy l v) 4096) s && memC keep s) 4096) = restrictR l v keep := by
  have hp := chk_placed hc
  unfold restrictR
  rw [if_pos hc]
  refine canon_unique (pickW_canon _ _ (runsE_spec _ 4096).canon).1 (canonOf_canon _) fun v' s => ?_
  rw [canonOf_eff' (resF_bounded hp), pickW_eff _ _ (runsE_spec _ 4096).canon, (runsE_spec _ 4096).mem]
  unfold resF effP
  by_cases hv : v' = v
  · subst hv
    by_cases h0 : 0 ≤ s ∧ s < 4096
    · rw [memC_runs _ _ h0.1 h0.2]
      have e : markedBy l v' s = (eff l v' s).isSome := by
        rw [eff_isSome]
        unfold markedBy
        congr 1
        funext w
        exact holds_at w v' s h0.1 h0.2
      rw [e]
      have a1 := h0.1
      have a2 : s < ((4096 : Nat) : Int) := h0.2
      cases hE : eff l v' s <;> cases hk : memC keep s <;> simp [hE, hk, a1, h0.2]
    · have hd : eff l v' s = none := eff_bounded hp v' s (fun hd => h0 ⟨hd.2.2.1, hd.2.2.2⟩)
      simp [hd, h0]
  · simp [hv]
set_option maxHeartbeats 4000000 in
theorem restrictRef_any (v vk : Value) (l : List Wr) (vol : Int) (keep : List Ext) (w : World) (S T : Nat → Prop) (h : RWrs w S v l) (hk : RExts w T vk keep) (h3 : In64 vol) :
    Calls Try.prog 26 #[v, .int .i64 vol, vk] w (RetWrsE (restrictR l vol keep) (chkI plI none l) w) := by
  have G0 : Below w.heap.size w w := Below.refl _ _
  go_enter Try.func26, Try.ntmps26
  go_wp2_with fail
  refine (most_any _).mono ?_
  rintro e w1 ⟨v1, rfl, X1, B1⟩
  have G1 := below_then G0 G0.size B1
  go_wp2_with fail
  refine (refCheck_any v v1 l sizes8 w1 S _ (h.below G1) X1).mono ?_
  rintro e w2 ⟨rfl, B2⟩
  rw [refChk8]
  have G2 := below_then G1 G1.size B2
  by_cases hc : chkI plI none l = 0
  · have hrr := restrictR_eq hc vol keep
    rw [hc]
    go_wp2_with fail
    refine (extents_any v l vol w2 S (h.below G2)).mono ?_
    rintro e w3 ⟨v3, rfl, X3, B3⟩
    have G3 := below_then G2 G2.size B3
    go_wp2_with fail
    refine (intersectR_any v3 vk _ keep w3 _ T X3 (hk.below G3)).mono ?_
    rintro e w4 ⟨v4, rfl, X4, B4⟩
    have G4 := below_then G3 G3.size B4
    go_wp2_with fail
    refine (pick_any v v4 l _ vol w4 S _ (h.below G4) X4 h3 (runs_bound _ 4096) (runs_len _ 4096)).mono ?_
    rintro e w5 ⟨v5, rfl, X5, B5⟩
    rw [hrr] at X5
    have G5 := below_then G4 G4.size B5
    have hs4 := G4.size
    go_wp2
    exact bodyPost_ret (v := .tuple #[v5, .int .i64 0]) (by simp [results, Try.results26, go_sem]) rfl ⟨v5, by rw [hc], X5.more (fun b _ hb => by omega), G5⟩
  · have hz' : (chkI plI none l != 0) = true := by simpa using hc
    go_wp2
    refine bodyPost_ret (v := .tuple #[.slice none 0 0, .int .i64 (chkI plI none l)]) (by simp [results, Try.results26, go_sem]) rfl ⟨_, rfl, ?_, G2⟩
    unfold restrictR
    rw [if_neg hc]
    exact RSl.nil _ _
end Go.Proofs.Ytoifinmcoldidaa
