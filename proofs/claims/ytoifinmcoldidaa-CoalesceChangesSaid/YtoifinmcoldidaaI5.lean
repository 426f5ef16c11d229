import Derived.Test.YtoifinmcoldidaaI4
set_option maxRecDepth 100000
set_option linter.unusedVariables false
set_option linter.unusedSimpArgs false
namespace Go.Proofs.Ytoifinmcoldidaa
open Go.RowKit Go.Mm Sb

theorem lens_zeros : ∀ {l : List Int}, (∀ x ∈ l, 0 ≤ x) → lens (l.map zeros) = l
  | [], _ => rfl
  | x :: t, h => by
    have ih := lens_zeros (l := t) (fun y hy => h y (by simp [hy]))
    have hx := h x (by simp)
    unfold lens at ih ⊢
    rw [List.map_cons, List.map_cons, ih]
    congr 1
    simp [zeros]; omega
set_option maxHeartbeats 2000000 in
theorem chkC_any (v vs : Value) (l : List Wr) (sizes : List Int) (w : World) (S S2 : Nat → Prop) (h : RWrs w S v l) (hs : RInts w S2 vs sizes) :
    Calls Try.prog 19 #[v, vs] w fun e w' => e = .returned (.int .i64 (refChk l sizes)) ∧ Below w.heap.size w w' := by
  go_enter Try.func19, Try.ntmps19
  go_wp2_with fail
  refine (new_any vs sizes w S2 hs).mono ?_
  rintro e w1 ⟨v1, rfl, hv1, B1⟩
  obtain ⟨Ai, ci, rfl, hci, hmi⟩ := hv1.val
  have hlt := B1.size
  have hA := (Below.refl w1.heap.size w1).alloc (Nat.le_refl _) (.cells #[.slice Ai (if sizesI sizes = 0 then sizes.map zeros else []).length ci] 60)
  by_cases hz : sizesI sizes = 0
  · have hr : refChk l sizes = chkI (fitW sizes) none l := by unfold refChk; rw [if_pos hz]
    have hls := lens_zeros (l := sizes) (fun x hx => by have := sizesI_ok hz x hx; omega)
    have hcell : (w1.alloc (.cells #[.slice Ai (if sizesI sizes = 0 then sizes.map zeros else []).length ci] 60)).cell? ⟨w1.heap.size, 0, none⟩ = some (.slice Ai (if sizesI sizes = 0 then sizes.map zeros else []).length ci) := (Blk.new w1 60 #[_]).cell 0
    rw [if_pos hz] at hv1 hcell hA
    rw [hz]
    have hli : (if (0 : Int) = 0 then sizes.map zeros else []).length = (sizes.map zeros).length := by simp
    rw [if_pos rfl]
    have G1 := below_then B1 hlt hA
    have hv2 := hv1.below hA
    have h2 := h.below G1
    have c := check2_any v _ l (sizes.map zeros) w1.heap.size _ S _ h2 (by simp) hcell hv2 (by rw [hls]; exact hz)
    rw [hls, ← hr, List.length_map] at c
    rw [List.length_map] at G1
    have HC := Lib.hid c
    clear c hr hls hcell hli
    go_wp2_with (first | (go_at_call 44; refine HC.out.mono ?_; rintro e w2 ⟨rfl, hb2⟩))
    go_ret
    exact ⟨rfl, below_then G1 G1.size hb2⟩
  · have hr : refChk l sizes = sizesI sizes := by unfold refChk; rw [if_neg hz]
    have hz' : (sizesI sizes != 0) = true := by simpa using hz
    rw [if_neg hz]
    rw [if_neg hz] at hA
    have HR := Lib.hid hr
    clear hr
    go_wp2
    go_ret
    exact ⟨ret_int HR.out.symm, below_then B1 hlt hA⟩
end Go.Proofs.Ytoifinmcoldidaa
