import Derived.Test.YtoifinmcoldidaaB2
import Derived.Test.YtoifinmcoldidaaE8
import Derived.Test.YtoifinmcoldidaaC13
import Derived.Test.YtoifinmcoldidaaR11
import Derived.Deep.RegionHeld3
set_option maxRecDepth 100000
set_option linter.unusedVariables false
set_option linter.unusedSimpArgs false
namespace Go.Proofs.Ytoifinmcoldidaa
open Go.RowKit Go.Mm Sb

/-! ### CoalesceSelects -/
theorem same01_true (va vb : Value) (a : List Ext) (w : World) (S T : Nat → Prop) (ha : RExts w S va a) (hb : RExts w T vb a) :
    Calls Try.prog 29 #[va, vb] w fun e w' => e = .returned (.bool true) ∧ Below w.heap.size w w' :=
  (same01_any va vb a a w S T ha hb).mono fun e w' ⟨h1, h2⟩ => ⟨h1.trans (ret_bool (decide_eq_true rfl)), h2⟩
set_option maxHeartbeats 16000000 in
theorem selects_any (va vk : Value) (a : List Wr) (vol s : Int) (keep : List Ext) (w : World) (ha : RWrs w Any va a) (hk : RExts w Any vk keep) (hvol : In64 vol) (hs : In64 s) :
    Calls Try.prog 9 #[va, .agg #[.int .i64 vol, .int .i64 s, vk]] w fun e w' => e = .returned (.bool true) ∧ Below w.heap.size w w' := by
  obtain ⟨Ak, ck, rfl, hkc, hkm⟩ := hk.val
  unfold maxLen at hkm
  have hb0 : Blk (w.alloc (.cells #[.int .i64 vol, .int .i64 s, .slice Ak keep.length ck] 50)) w.heap.size 50 #[.int .i64 vol, .int .i64 s, .slice Ak keep.length ck] := Blk.new _ _ _
  have G0 := (Below.refl w.heap.size w).alloc (Nat.le_refl _) (.cells #[.int .i64 vol, .int .i64 s, .slice Ak keep.length ck] 50)
  go_enter Try.func9, Try.ntmps9
  go_wp2_with fail
  refine (few_any va a _ Any (ha.below G0)).mono ?_
  rintro e w1 ⟨q1, rfl, f1, B1⟩
  have G1 := below_then G0 G0.size B1
  have hb1 := hb0.below B1
  have hlt0 := hb1.lt
  obtain ⟨z0, z1, z2, _⟩ := hb1.three
  cases q1 with
  | false =>
    go_wp2_with (first | (go_at_call 13; refine (awake_any _).mono ?_; rintro e w99 ⟨rfl, B99⟩))
    go_ret
    exact ⟨rfl, below_then G1 G1.size B99⟩
  | true =>
    replace f1 := f1 rfl
    by_cases h20 : 20 < keep.length
    · have t2 := decide_eq_true (show (20 : Int) < (keep.length : Int) by omega)
      go_wp2_with (first | (go_at_call 13; refine (awake_any _).mono ?_; rintro e w99 ⟨rfl, B99⟩))
      go_ret
      exact ⟨rfl, below_then G1 G1.size B99⟩
    · have t2 := decide_eq_false (show ¬ (20 : Int) < (keep.length : Int) by omega)
      have hsec := few_sec f1
      obtain ⟨hlen, _⟩ := f1
      go_wp2_with fail
      have c2 := restrict_any va _ a vol keep w1 Any (ha.below G1) (hk.below G1) hsec
      refine c2.mono ?_
      rintro e w2 ⟨v2, rfl, X2, B2⟩
      have G2 := below_then G1 G1.size B2
      have hb2 := hb1.below B2
      clear c2 z0 z1 z2 hlt0
      have hlt0 := hb2.lt
      obtain ⟨z0, z1, z2, _⟩ := hb2.three
      replace X2 : RWrs w2 Any v2 _ := X2.more (fun _ _ _ => trivial)
      go_wp2_with fail
      have c3 := restrictRef_any va _ a vol keep w2 Any Any (ha.below G2) (hk.below G2) hvol
      refine c3.mono ?_
      rintro e w3 ⟨v3, rfl, X3, B3⟩
      have G3 := below_then G2 G2.size B3
      have hb3 := hb2.below B3
      clear c3 z0 z1 z2 hlt0
      have hlt0 := hb3.lt
      obtain ⟨z0, z1, z2, _⟩ := hb3.three
      replace X2 := X2.below B3
      replace X3 : RWrs w3 Any v3 _ := X3.more (fun _ _ _ => trivial)
      have c5 := lookC_any va a vol s w3 Any (ha.below G3) hvol hs
      unfold LookRet at c5
      generalize hY : (eff a vol s).getD Sec.zero = y at c5
      generalize hO : (eff a vol s).isSome = ok at c5
      have HY := Lib.hid (And.intro hY hO)
      clear hY hO
      generalize chkI plI none a = ei at *
      generalize restrictR a vol keep = lr at *
      go_upto_region 6 with (first | (go_at_call 27; refine c5.mono ?_; rintro e w5 ⟨ok5, rfl, rfl, B5⟩; unfold secV))
      clear c5
      have hy5 : Blk (w5.alloc (.cells #[.int .u8 y.b0, .int .u8 y.b1, .int .u8 y.b2, .int .u8 y.b3, .int .u8 y.b4, .int .u8 y.b5, .int .u8 y.b6, .int .u8 y.b7] 53)) w5.heap.size 53 #[.int .u8 y.b0, .int .u8 y.b1, .int .u8 y.b2, .int .u8 y.b3, .int .u8 y.b4, .int .u8 y.b5, .int .u8 y.b6, .int .u8 y.b7] := Blk.new _ _ _
      have BW5 : Below w3.heap.size w3 (w5.alloc (.cells #[.int .u8 y.b0, .int .u8 y.b1, .int .u8 y.b2, .int .u8 y.b3, .int .u8 y.b4, .int .u8 y.b5, .int .u8 y.b6, .int .u8 y.b7] 53)) := B5.alloc B5.size _
      have hb5 := hb3.below BW5
      have G5 := below_then G3 G3.size BW5
      replace X2 := X2.below BW5
      replace X3 := X3.below BW5
      generalize w5.alloc (.cells #[.int .u8 y.b0, .int .u8 y.b1, .int .u8 y.b2, .int .u8 y.b3, .int .u8 y.b4, .int .u8 y.b5, .int .u8 y.b6, .int .u8 y.b7] 53) = W5 at *
      generalize w5.heap.size = n5 at *
      have c6 := lookupR_any va a vol s W5 Any (ha.below G5) hvol hs
      unfold LookRet at c6
      rw [HY.out.1, HY.out.2] at c6
      clear z0 z1 z2 B5 hlt0
      obtain ⟨z0, z1, z2, _⟩ := hb5.three
      have hlt0 := hb5.lt
      go_upto_region 7 with (first | (go_at_call 28; refine c6.mono ?_; rintro e w6 ⟨ok6, rfl, rfl, B6⟩; unfold secV))
      clear c6
      have hy6 : Blk (w6.alloc (.cells #[.int .u8 y.b0, .int .u8 y.b1, .int .u8 y.b2, .int .u8 y.b3, .int .u8 y.b4, .int .u8 y.b5, .int .u8 y.b6, .int .u8 y.b7] 53)) w6.heap.size 53 #[.int .u8 y.b0, .int .u8 y.b1, .int .u8 y.b2, .int .u8 y.b3, .int .u8 y.b4, .int .u8 y.b5, .int .u8 y.b6, .int .u8 y.b7] := Blk.new _ _ _
      have BW6 : Below W5.heap.size W5 (w6.alloc (.cells #[.int .u8 y.b0, .int .u8 y.b1, .int .u8 y.b2, .int .u8 y.b3, .int .u8 y.b4, .int .u8 y.b5, .int .u8 y.b6, .int .u8 y.b7] 53)) := B6.alloc B6.size _
      have hb6 := hb5.below BW6
      have hy56 := hy5.below BW6
      have G6 := below_then G5 G5.size BW6
      replace X2 := X2.below BW6
      replace X3 := X3.below BW6
      generalize w6.alloc (.cells #[.int .u8 y.b0, .int .u8 y.b1, .int .u8 y.b2, .int .u8 y.b3, .int .u8 y.b4, .int .u8 y.b5, .int .u8 y.b6, .int .u8 y.b7] 53) = W6 at *
      generalize w6.heap.size = n6 at *
      clear z0 z1 z2 B6 hb5 hy5 hlt0
      have hnq := fun W => neqS y y W
      rw [show decide (y = y) = true from decide_eq_true rfl] at hnq
      simp only [encS, secCells, Bool.not_true] at hnq
      go_upto_region 9 with (first | (go_at_call 16; refine (same22_any v2 v3 _ _ W6 Any X2 X3).mono ?_; rintro e w7 ⟨rfl, B7⟩; rw [show decide (lr = lr) = true from decide_eq_true rfl]; have hy7 := hy6.below B7; have hy57 := hy56.below B7; obtain ⟨_, _, _, _, _, _, _, _, a0, a1, a2, a3, a4, a5, a6, a7⟩ := Blk.eight hy7; obtain ⟨_, _, _, _, _, _, _, _, b0, b1, b2, b3, b4, b5, b6, b7⟩ := Blk.eight hy57))
      have hb7 := hb6.below B7
      have G7 := below_then G6 G6.size B7
      have ha7 := ha.below G7
      clear a0 a1 a2 a3 a4 a5 a6 a7 b0 b1 b2 b3 b4 b5 b6 b7 hy6 hy56 hy7 hy57 X2 X3 B7 hnq hb6 BW6 BW5 hb3 G5 G6
      have hD : ∀ W, Below w7.heap.size w7 W → (Below w7.heap.size w7 W ∧ W.cell? ⟨w.heap.size, 0, none⟩ = some (.int .i64 vol)) := fun W hW => ⟨hW, (hW.cell (p := ⟨w.heap.size, 0, none⟩) hb7.lt).trans (hb7.cell 0)⟩
      have hdr : Below w7.heap.size w7 w7.drew := (Below.refl _ _).drew
      have hsz : ∀ W, Below w7.heap.size w7 W → w7.heap.size ≤ W.heap.size := fun W h => h.size
      have hflen : a.length ≤ 1000000 := by omega
      go_region_held3 (fun W => Below w7.heap.size w7 W ∧ W.cell? ⟨w.heap.size, 0, none⟩ = some (.int .i64 vol))
        (first | (exact hD _ hS6) | (exact hD _ hS5) | (exact hD _ hS4) | (exact hD _ hS3) | (exact hD _ hS2) | (exact hD _ hS1) | (exact hD _ hdr) | assumption | go_keep)
        (first | (go_at_call 24; refine (extC_any va a vol _ Any (ha7.below hdr) hflen).mono ?_; rintro e w8 ⟨v8, rfl, X8, B8⟩; have hS1 : Below w7.heap.size w7 w8 := below_then hdr (hsz _ hdr) B8) | (go_at_call 30; refine (extents_any va a vol _ Any (ha7.below hS1)).mono ?_; rintro e w9 ⟨v9, rfl, X9, B9⟩; have hS2 : Below w7.heap.size w7 w9 := below_then hS1 (hsz _ hS1) B9) | (go_at_call 29; refine (same01_true v8 v9 _ _ _ _ (X8.below B9) X9).mono ?_; rintro e w10 ⟨rfl, B10⟩; have hS3 : Below w7.heap.size w7 w10 := below_then hS2 (hsz _ hS2) B10) | (go_at_call 25; refine (sectors_any va a _ Any (ha7.below hS3) hsec).mono ?_; rintro e w11 ⟨rfl, B11⟩; have hS4 : Below w7.heap.size w7 w11 := below_then hS3 (hsz _ hS3) B11) | (go_at_call 31; refine (sectorsR_any va a _ Any (ha7.below hS4) hsec).mono ?_; rintro e w12 ⟨rfl, B12⟩; have hS5 : Below w7.heap.size w7 w12 := below_then hS4 (hsz _ hS4) B12) | (go_at_call 13; refine (awake_any _).mono ?_; rintro e w13 ⟨rfl, B13⟩; have hS6 : Below w7.heap.size w7 w13 := below_then hS5 (hsz _ hS5) B13))
      go_wp2
      go_ret
      exact ⟨rfl, below_then G7 G7.size hS6⟩
end Go.Proofs.Ytoifinmcoldidaa
