import Derived.Test.YtoifinmcoldidaaR8
import Derived.Test.YtoifinmcoldidaaC20
set_option maxRecDepth 100000
set_option linter.unusedVariables false
set_option linter.unusedSimpArgs false
namespace Go.Proofs.Ytoifinmcoldidaa
open Go.RowKit Go.Mm Sb

/-! ### the reference: Merge -/
theorem fit8_pl : fitW sizes8 = plI := by funext x; exact fits8 x.vol x.start x.data.length
theorem refChk8 (l : List Wr) : refChk l sizes8 = chkI plI none l := by unfold refChk; rw [if_pos sizes8_zero, fit8_pl]
set_option maxHeartbeats 8000000 in
theorem refMerge_any (va vb : Value) (a b : List Wr) (w : World) (ha : RWrs w Any va a) (hb : RWrs w Any vb b) (hn : a.length + b.length ≤ 1000) :
    Calls Try.prog 18 #[va, vb] w (RetWrsE (mergeR a b) (mergeI a b) w) := by
  go_enter Try.func18, Try.ntmps18
  go_wp2_with fail
  refine (most_any w).mono ?_
  rintro e w1 ⟨v1, rfl, hv1, B1⟩
  have G1 : Below w.heap.size w w1 := B1
  go_wp2_with fail
  refine (refCheck_any va v1 a sizes8 w1 Any _ (ha.below G1) hv1).mono ?_
  rintro e w2 ⟨rfl, B2⟩
  have G2 := below_then G1 G1.size B2
  rw [refChk8]
  by_cases h1 : chkI plI none a = 0
  · rw [h1]
    go_wp2_with fail
    refine (most_any w2).mono ?_
    rintro e w3 ⟨v3, rfl, hv3, B3⟩
    have G3 := below_then G2 G2.size B3
    go_wp2_with fail
    refine (refCheck_any vb v3 b sizes8 w3 Any _ (hb.below G3) hv3).mono ?_
    rintro e w4 ⟨rfl, B4⟩
    have G4 := below_then G3 G3.size B4
    rw [refChk8]
    by_cases h2 : chkI plI none b = 0
    · rw [h2]
      have hi : mergeI a b = 0 := by unfold mergeI; rw [if_pos h1, h2]
      have hf : foldI (a ++ b) = 0 := foldI_of_placed (allPlaced_append (chk_placed h1) (chk_placed h2))
      have hr : foldR (a ++ b) = mergeR a b := by unfold foldR mergeR; rw [if_pos hf, if_pos hi]
      have HI := Lib.hid hi
      have HF := Lib.hid hf
      have HR := Lib.hid hr
      clear hi hf hr h1 h2
      have gs := G4.size
      go_wp2_with (first | (at_builtin; have := O1; refine wpList_appWr rfl _ _ rfl w4.heap.size w gs _ a rfl O1 vb b rfl hb K1 hn S1 ?_; intro u2 w6 O2 L2 S2; have K2 := L2 _ _ gs K1; obtain ⟨A2, c2, rfl, _, _⟩ := O2.val; rw [List.length_append] at O2; clear L2) | (at_builtin; refine wpList_appWr rfl _ _ rfl w4.heap.size w gs _ [] rfl (OwnSl.nil _) va a rfl ha G4 (by simp; omega) (Nat.le_refl _) ?_; intro u1 w5 O1 L1 S1; have K1 := L1 _ _ gs G4; rw [List.nil_append] at O1; obtain ⟨A1, c1, rfl, _, _⟩ := O1.val; clear L1))
      have hall := refFold_any _ (a ++ b) w6 Any (O2.reads (fun _ _ _ => trivial))
      refine hall.mono ?_
      rintro e w7 ⟨v7, rfl, X7, B7⟩
      have G7 := below_then K2 K2.size B7
      have hk2 := K2.size
      rw [HR.out] at X7
      go_wp2_with fail
      refine bodyPost_ret (v := .tuple #[v7, .int .i64 (mergeI a b)]) (by simp [results, Try.results18, go_sem, HI.out, HF.out]) rfl ⟨_, rfl, X7.more (fun b _ h => by omega), G7⟩
    · have hz' : (chkI plI none b != 0) = true := by simpa using h2
      have hi : mergeI a b = chkI plI none b := by unfold mergeI; rw [if_pos h1]
      go_wp2_with fail
      refine bodyPost_ret (v := .tuple #[.slice none 0 0, .int .i64 (mergeI a b)]) (by simp [results, Try.results18, go_sem, hi]) rfl ⟨_, rfl, ?_, G4⟩
      unfold mergeR
      rw [if_neg (by rw [hi]; exact h2)]
      exact RSl.nil _ _
  · have hz' : (chkI plI none a != 0) = true := by simpa using h1
    have hi : mergeI a b = chkI plI none a := by unfold mergeI; rw [if_neg h1]
    go_wp2_with fail
    refine bodyPost_ret (v := .tuple #[.slice none 0 0, .int .i64 (mergeI a b)]) (by simp [results, Try.results18, go_sem, hi]) rfl ⟨_, rfl, ?_, G2⟩
    unfold mergeR
    rw [if_neg (by rw [hi]; exact h1)]
    exact RSl.nil _ _
end Go.Proofs.Ytoifinmcoldidaa
