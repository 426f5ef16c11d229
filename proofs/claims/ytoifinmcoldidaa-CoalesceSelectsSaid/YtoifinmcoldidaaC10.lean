import Derived.Test.YtoifinmcoldidaaC9
set_option maxRecDepth 100000
set_option linter.unusedVariables false
set_option linter.unusedSimpArgs false
namespace Go.Proofs.Ytoifinmcoldidaa
open Go.RowKit Go.Mm Sb

/-! ### Merge -/
theorem chk_placed : ∀ {p : Option Wr} {l : List Wr}, chkI plI p l = 0 → AllPlaced l
  | _, [], _ => by intro w hw; simp at hw
  | none, x :: t, h => by
    unfold chkI at h
    split at h
    · rename_i hx
      intro w hw
      rcases List.mem_cons.1 hw with rfl | hw
      · exact plI_placed hx
      · exact chk_placed h w hw
    · rename_i hx; exact absurd h hx
  | some y, x :: t, h => by
    unfold chkI at h
    split at h
    · rename_i hx
      split at h
      · cases h
      · intro w hw
        rcases List.mem_cons.1 hw with rfl | hw
        · exact plI_placed hx
        · exact chk_placed h w hw
    · rename_i hx; exact absurd h hx
def mergeI (a b : List Wr) : Int := if chkI plI none a = 0 then chkI plI none b else chkI plI none a
def mergeR (a b : List Wr) : List Wr := if mergeI a b = 0 then foldW (a ++ b) else []
theorem secN_append (a b : List Wr) : secN (a ++ b) = secN a + secN b := by unfold secN; rw [List.map_append, List.sum_append]
theorem allPlaced_append {a b : List Wr} (h1 : AllPlaced a) (h2 : AllPlaced b) : AllPlaced (a ++ b) := fun w hw => by
  rcases List.mem_append.1 hw with hw | hw
  · exact h1 w hw
  · exact h2 w hw
set_option maxHeartbeats 2000000 in
theorem merge_any (va vb : Value) (a b : List Wr) (w : World) (S : Nat → Prop) (ha : RWrs w S va a) (hb : RWrs w S vb b) (hn : a.length + b.length ≤ 1000000) (hsz : secN a + secN b ≤ 1000000000000) :
    Calls Try.prog 17 #[va, vb] w (RetWrsE (mergeR a b) (mergeI a b) w) := by
  have hA := ha.val
  have hB := hb.val
  obtain ⟨Aa, ca, rfl, ha1, ha2⟩ := hA
  obtain ⟨Ab, cb, rfl, hb1, hb2⟩ := hB
  unfold maxLen at ha2 hb2
  go_enter Try.func17, Try.ntmps17
  go_wp2
  go_loopw [13] (fun i wr => ∃ k : Nat, k ≤ 2 ∧ i = .int .i64 k ∧ (1 ≤ k → chkI plI none a = 0) ∧ (2 ≤ k → chkI plI none b = 0) ∧ Below w.heap.size w wr ∧ Blk wr w.heap.size 22 #[.slice Aa a.length ca, .slice Ab b.length cb]) (fun i _ => 2 - (intOf i).toNat)
  case atStart => exact ⟨0, by omega, rfl, by omega, by omega, (Below.refl _ _).alloc (Nat.le_refl _) _, Blk.new _ _ _⟩
  case round =>
    obtain ⟨k, hk, rfl, hz1, hz2, hB, hK⟩ := hrel
    have hbs := hB.size
    have hkl := hK.lt
    obtain ⟨q0, q1, q2, q3⟩ := hK.two
    match k, hk with
    | 0, _ =>
      by_cases hc : chkI plI none a = 0
      · go_wp2_with (first | (go_at_call 44; refine (check_any _ a _ S (ha.below hB)).mono ?_; rintro e w1 ⟨rfl, hB1⟩; rw [hc]))
        go_roundw
        case rel => exact ⟨1, by omega, rfl, fun _ => hc, by omega, below_then hB hbs hB1, hK.below hB1⟩
        case measure => simp [intOf]
      · go_wp2_with (first | (go_at_call 44; refine (check_any _ a _ S (ha.below hB)).mono ?_; rintro e w1 ⟨rfl, hB1⟩))
        have hfe : mergeI a b = chkI plI none a := by unfold mergeI; rw [if_neg hc]
        refine bodyPost_ret (v := .tuple #[.slice none 0 0, .int .i64 (mergeI a b)]) (by simp [results, Try.results17, go_sem, hfe]) rfl ⟨_, rfl, ?_, below_then hB hbs hB1⟩
        unfold mergeR
        rw [if_neg (by rw [hfe]; exact hc)]
        exact RSl.nil _ _
    | 1, _ =>
      have hca := hz1 (by omega)
      by_cases hc : chkI plI none b = 0
      · go_wp2_with (first | (go_at_call 44; refine (check_any _ b _ S (hb.below hB)).mono ?_; rintro e w1 ⟨rfl, hB1⟩; rw [hc]))
        go_roundw
        case rel => exact ⟨2, by omega, rfl, fun _ => hca, fun _ => hc, below_then hB hbs hB1, hK.below hB1⟩
        case measure => simp [intOf]
      · go_wp2_with (first | (go_at_call 44; refine (check_any _ b _ S (hb.below hB)).mono ?_; rintro e w1 ⟨rfl, hB1⟩))
        have hfe : mergeI a b = chkI plI none b := by unfold mergeI; rw [if_pos hca]
        refine bodyPost_ret (v := .tuple #[.slice none 0 0, .int .i64 (mergeI a b)]) (by simp [results, Try.results17, go_sem, hfe]) rfl ⟨_, rfl, ?_, below_then hB hbs hB1⟩
        unfold mergeR
        rw [if_neg (by rw [hfe]; exact hc)]
        exact RSl.nil _ _
    | 2, _ =>
      have hca := hz1 (by omega)
      have hcb := hz2 (by omega)
      have hap : AllPlaced (a ++ b) := allPlaced_append (chk_placed hca) (chk_placed hcb)
      have heb := eff_bounded hap
      have hI0 : mergeI a b = 0 := by unfold mergeI; rw [if_pos hca, hcb]
      have hr0 : canonOf (fun v s => effP (a ++ b) (v, s)) = mergeR a b := by unfold mergeR; rw [if_pos hI0]; rfl
      have hsz' : secN (a ++ b) ≤ 1000000000000 := by rw [secN_append]; exact hsz
      have HR := Lib.hid hr0
      have HAP := Lib.hid hap
      have HEB := Lib.hid heb
      have hnew := Blk.new wr 22 #[.slice Aa a.length ca, .slice Ab b.length cb]
      have hbw := hB.alloc hB.size (.cells #[.slice Aa a.length ca, .slice Ab b.length cb] 22)
      clear hz1 hz2 hap heb hr0
      obtain ⟨p0, p1, p2, p3⟩ := hnew.two
      have hcc := concat_any _ _ a b wr.heap.size 2 _ hnew.lt p0 p1 S (ha.below hbw) (hb.below hbw) hn
      clear p0 p1 p2 p3 q0 q1 q2 q3
      go_wp2_with (first | (go_at_call 45; refine hcc.mono ?_; rintro e w0 ⟨v0, rfl, hv0, hb0⟩; have HB := below_then hbw hbw.size hb0; have HBS := HB.size) | (go_at_call 38; refine (effect_any _ _ _ _ hv0 HAP.out hsz').mono ?_; rintro e w1 ⟨mb, ks, rfl, hmap, hmb, hb1⟩; have HB1 := below_then HB HBS hb1; have HBS1 := hb1.size) | (go_at_call 39; refine (canonical_any _ _ _ ks _ hmap HEB.out hsz').mono ?_; rintro e w2 ⟨v2, rfl, hv2, hb2⟩))
      refine bodyPost_ret (v := .tuple #[v2, .int .i64 (mergeI a b)]) (by simp [results, Try.results17, go_sem, hI0]) rfl ⟨_, rfl, ?_, ?_⟩
      · rw [HR.out] at hv2
        exact hv2.more fun b _ hbb => by omega
      · exact below_then HB1 (by omega) hb2
end Go.Proofs.Ytoifinmcoldidaa
