import Derived.Test.YtoifinmcoldidaaE9
import Derived.Test.YtoifinmcoldidaaD6a
set_option maxRecDepth 100000
set_option linter.unusedVariables false
set_option linter.unusedSimpArgs false
namespace Go.Proofs.Ytoifinmcoldidaa
open Go.RowKit Go.Mm Sb

/-! ### CoalesceDivides: the walk -/
theorem restrict_ok (v vk : Value) (l : List Wr) (vol : Nat) (hv : vol < 8) (keep : List Ext) (w : World) (h : RWrs w Any v l) (hk : RExts w Any vk keep) (hc : chkI plI none l = 0) (hsz : secN l ≤ 1000000000000) :
    Calls Try.prog 22 #[v, .int .i64 vol, vk] w (RetWrsE (canonV (partF (eff l) (memC keep)) (vol : Nat)) 0 w) := by
  have := restrict_any v vk l vol keep w Any h hk hsz
  rwa [hc, restrict_eq (chk_placed hc) hc (vol : Nat) (by omega) (by omega) keep] at this
set_option maxHeartbeats 16000000 in
theorem divides_any (va vk : Value) (a : List Wr) (keep : List Ext) (w : World) (ha : RWrs w Any va a) (hk : RExts w Any vk keep) :
    Calls Try.prog 8 #[va, vk] w fun e w' => e = .returned (.bool true) ∧ Below w.heap.size w w' := by
  have G0 : Below w.heap.size w w := Below.refl _ _
  obtain ⟨Ak, ck, rfl, hkc, hkm⟩ := hk.val
  unfold maxLen at hkm
  go_enter Try.func8, Try.ntmps8
  go_wp2_with fail
  refine (few_any va a _ Any (ha.below G0)).mono ?_
  rintro e w1 ⟨q1, rfl, f1, B1⟩
  have G1 := below_then G0 G0.size B1
  cases q1 with
  | false =>
    go_wp2_with (first | (go_at_call 13; refine (awake_any _).mono ?_; rintro e w99 ⟨rfl, B99⟩))
    go_ret
    exact ⟨rfl, below_then G1 G1.size B99⟩
  | true =>
    replace f1 := f1 rfl
    by_cases h20 : 20 < keep.length
    · have t2 := decide_eq_true (show (20 : Int) < (keep.length : Int) by omega)
      go_wp2_with (first | (go_at_call 13; refine (awake_any _).mono ?_; rintro e w99 ⟨rfl, B99⟩))
      go_ret
      exact ⟨rfl, below_then G1 G1.size B99⟩
    · have t2 := decide_eq_false (show ¬ (20 : Int) < (keep.length : Int) by omega)
      have hk20 : keep.length ≤ 1000000 := by omega
      go_wp2_with fail
      have c1 := fold_any va a w1 Any (ha.below G1) (few_sec f1)
      refine c1.mono ?_
      rintro e w2 ⟨v2, rfl, X2, B2⟩
      have G2 := below_then G1 G1.size B2
      clear c1
      by_cases hF : foldI a = 0
      · have hap := foldI_placed hF
        have hfr : foldR a = foldW a := by unfold foldR; rw [if_pos hF]
        rw [hfr] at X2
        rw [hF]
        have hpl := foldW_placed hap
        have hchk : chkI plI none (foldW a) = 0 := chk_canon (foldW_canon a) hpl (by simp)
        have hfb := fold_bound hap
        have hsec : secN (foldW a) ≤ 1000000000000 := by have : secN (foldW a) = secL (foldW a) := rfl; omega
        have hFb : Bounded (eff (foldW a)) := eff_bounded hpl
        have hself : canonOf (eff (foldW a)) = foldW a := by
          have := foldW_id (foldW_canon a) hpl
          exact this
        replace X2 : RWrs w2 Any v2 (foldW a) := X2.more (fun _ _ _ => trivial)
        clear hF hfr hap hfb
        generalize foldW a = f at *
        go_wp2_with fail
        refine (complement_any _ keep w2 Any (hk.below G2) hk20).mono ?_
        rintro e w3 ⟨v3, N, rfl, X3, hNl, hN, B3⟩
        have G3 := below_then G2 G2.size B3
        replace X3 : RExts w3 Any v3 N := X3.more (fun _ _ _ => trivial)
        replace X2 := X2.below B3
        have HP := Lib.hid (And.intro hpl (And.intro hchk (And.intro hsec (And.intro hFb (And.intro hself hN)))))
        clear hpl hchk hsec hFb hself hN
        go_wp2
        go_loopw [7, 8, 36] (fun u v i wr => ∃ k : Nat, k ≤ 8 ∧ i = .int .i64 k ∧ Two wr w3.heap.size u v (partK (eff f) (memC keep) k) (partK (eff f) (memC N) k) ∧ Below w3.heap.size w3 wr) (fun _ _ i _ => 8 - (intOf i).toNat)
        case atStart => exact ⟨0, by omega, rfl, ⟨fun _ => False, OwnSl.nil _, OwnSl.nil _, fun _ h => h.elim, .inl rfl⟩, Below.refl _ _⟩
        case round =>
          obtain ⟨k, hk8, rfl, hT, hb⟩ := hrel
          have hbs := hb.size
          have gs3 := G3.size
          have G4 := below_then G3 G3.size hb
          by_cases hlt : k < 8
          · have t3 := decide_eq_true (show (k : Int) < 8 by omega)
            have Xf := X2.below hb
            have Xn := X3.below hb
            have Xk := hk.below G4
            have hlT := hT.lt
            have l1 := partK_len (eff f) (memC keep) k
            have l2 := partK_len (eff f) (memC N) k
            have l3 := canonV_len (partF (eff f) (memC keep)) (k : Nat)
            have l4 := canonV_len (partF (eff f) (memC N)) (k : Nat)
            go_wp2_with fail
            have c5 := restrict_ok v2 _ f k hlt keep wr Xf Xk HP.out.2.1 HP.out.2.2.1
            refine c5.mono ?_
            rintro e w5 ⟨v5, rfl, X5, B5⟩
            have b5 := B5.size
            replace Xf := Xf.below B5
            replace Xn := Xn.below B5
            have hT5 := hT.below B5
            clear c5
            go_wp2_with fail
            have c6 := restrict_ok v2 v3 f k hlt N w5 Xf Xn HP.out.2.1 HP.out.2.2.1
            refine c6.mono ?_
            rintro e w6 ⟨v6, rfl, X6, B6⟩
            have b6 := B6.size
            replace X5 := X5.below B6
            replace hT5 := hT5.below B6
            clear c6 Xf Xn
            go_wp2_with fail
            refine (extC_any v5 _ (k : Nat) w6 _ X5 (by omega)).mono ?_
            rintro e w7 ⟨v7, rfl, X7, B7⟩
            have b7 := B7.size
            replace X5 := X5.below B7
            replace X6 := X6.below B7
            replace hT5 := hT5.below B7
            go_wp2_with fail
            refine (extC_any v6 _ (k : Nat) w7 _ X6 (by omega)).mono ?_
            rintro e w8 ⟨v8, rfl, X8, B8⟩
            have b8 := B8.size
            replace X5 := X5.below B8
            replace X6 := X6.below B8
            replace hT5 := hT5.below B8
            replace X7 : RExts w8 Any v7 _ := (X7.below B8).more (fun _ _ _ => trivial)
            replace X8 : RExts w8 Any v8 _ := X8.more (fun _ _ _ => trivial)
            go_wp2_with fail
            have c9 := intersect_any v7 v8 _ _ w8 Any X7 X8 (Nat.le_trans (runs_len _ _) (by omega)) (Nat.le_trans (runs_len _ _) (by omega))
            rw [show runsE (fun s => keepI (memC (runsE (markedBy (canonV (partF (eff f) (memC keep)) (k : Nat)) (k : Nat)) 4096) s) (memC (runsE (markedBy (canonV (partF (eff f) (memC N)) (k : Nat)) (k : Nat)) 4096) s)) 4096 = [] from part_apart HP.out.2.2.2.2.2 (k : Nat) (by omega) (by omega)] at c9
            refine c9.mono ?_
            rintro e w9 ⟨v9, rfl, X9, B9⟩
            have b9 := B9.size
            replace X5 := X5.below B9
            replace X6 := X6.below B9
            replace hT5 := hT5.below B9
            obtain ⟨A9, c9', rfl, _, _⟩ := X9.val
            clear c9 X7 X8 X9 hT
            have hl1 := hlT.1
            have hl2 := hlT.2
            go_wp2_with (first | (at_builtin; have := H10; refine Two.app rfl _ _ rfl w3.heap.size (fun x => w5.heap.size ≤ x ∧ x < w9.heap.size) u8 u10 _ _ _ rfl hT10s ?_ v6 rfl X610 (by omega) (by have := hg10.size; omega) ?_; rotate_left 1; intro u11 w11 hT11 hg11 _) | (at_builtin; refine Two.app rfl _ _ rfl w3.heap.size (fun x => wr.heap.size ≤ x) u7 u8 _ _ _ rfl hT5 (fun x hx => ⟨fun e => by have := (hl1 x e.symm).2; omega, fun e => by have := (hl2 x e.symm).2; omega⟩) v5 rfl X5 (by omega) (by omega) ?_; intro u10 w10 hT10 hg10 hat10; have H10 : True := trivial; have hT10s := hT10.swap; have X610 : RWrs w10 (fun x => w5.heap.size ≤ x ∧ x < w9.heap.size) v6 _ := (X6.more (T := fun x => w5.heap.size ≤ x ∧ x < w9.heap.size) (fun x h1 h2 => ⟨h2, h1⟩)).keep (fun x hx hh => hg10.block x hx (fun e => by have := (hl1 x e.symm).2; omega))))
            · go_roundw
              case rel =>
                refine ⟨k + 1, by omega, by go_num, ?_, ?_⟩
                · rw [partK_succ, partK_succ]; exact hT11.swap
                · have hB9 := below_then (below_then (below_then (below_then (below_then hb hbs B5) (by omega) B6) (by omega) B7) (by omega) B8) (by omega) B9
                  exact (hB9.grown hg10 (by omega) (fun j e => (hl1 j e).1)).grown hg11 (by have := hg10.size; omega) (fun j e => (hl2 j e).1)
              case measure => simp [intOf]; omega
            · intro x hx
              refine ⟨fun e => by have := (hl2 x e.symm).2; omega, fun e => ?_⟩
              rcases hat10 with h | h
              · rw [h] at e; have := (hl1 x e.symm).2; omega
              · rw [h] at e; injection e with e; omega
          · obtain rfl : k = 8 := by omega
            rw [partK_all, partK_all] at hT
            obtain ⟨hpl, hchk, hsec, hFb, hself, hN⟩ := HP.out
            have pK := part_placed hFb (memC keep)
            have pN := part_placed hFb (memC N)
            have bK := fold_bound pK
            have bN := fold_bound pN
            rw [foldW_id (canonOf_canon _) pK] at bK
            rw [foldW_id (canonOf_canon _) pN] at bN
            have sK : secN (canonOf (partF (eff f) (memC keep))) = secL (canonOf (partF (eff f) (memC keep))) := rfl
            have sN : secN (canonOf (partF (eff f) (memC N))) = secL (canonOf (partF (eff f) (memC N))) := rfl
            have hmi : mergeI (canonOf (partF (eff f) (memC keep))) (canonOf (partF (eff f) (memC N))) = 0 := by
              unfold mergeI
              rw [if_pos (chk_canon (canonOf_canon _) pK (by simp)), chk_canon (canonOf_canon _) pN (by simp)]
            have hmr : mergeR (canonOf (partF (eff f) (memC keep))) (canonOf (partF (eff f) (memC N))) = f := by
              unfold mergeR
              rw [if_pos hmi, part_merge hFb hN, hself]
            have hsum := part_sectors hFb hN
            rw [hself] at hsum
            obtain ⟨D, o1, o2, _, _⟩ := hT
            have r1 : RWrs wr Any u7 (canonOf (partF (eff f) (memC keep))) := o1.reads (fun _ _ _ => trivial)
            have r2 : RWrs wr Any u8 (canonOf (partF (eff f) (memC N))) := o2.reads (fun _ _ _ => trivial)
            have c10 := merge_any u7 u8 _ _ wr Any r1 r2 (by omega) (by omega)
            rw [hmi, hmr] at c10
            have Xf := X2.below hb
            clear o1 o2 pK pN hmi hmr hFb hN hself hchk hpl
            generalize canonOf (partF (eff f) (memC keep)) = LK at *
            generalize canonOf (partF (eff f) (memC N)) = LN at *
            go_wp2_with fail
            refine c10.mono ?_
            rintro e w10 ⟨v10, rfl, X10, B10⟩
            have G10 := below_then G4 G4.size B10
            replace X10 : RWrs w10 Any v10 f := X10.more (fun _ _ _ => trivial)
            replace Xf := Xf.below B10
            replace r1 := r1.below B10
            replace r2 := r2.below B10
            clear c10
            go_wp2_with fail
            refine (same22_any v10 v2 f f w10 Any X10 Xf).mono ?_
            rintro e w11 ⟨rfl, B11⟩
            rw [show decide (f = f) = true from decide_eq_true rfl]
            have G11 := below_then G10 G10.size B11
            replace Xf := Xf.below B11
            replace r1 := r1.below B11
            replace r2 := r2.below B11
            go_wp2_with fail
            refine (sectors_any u7 LK w11 Any r1 (by omega)).mono ?_
            rintro e w12 ⟨rfl, B12⟩
            have G12 := below_then G11 G11.size B12
            replace Xf := Xf.below B12
            replace r2 := r2.below B12
            go_wp2_with fail
            refine (sectors_any u8 LN w12 Any r2 (by omega)).mono ?_
            rintro e w13 ⟨rfl, B13⟩
            have G13 := below_then G12 G12.size B13
            replace Xf := Xf.below B13
            go_wp2_with fail
            refine (sectors_any v2 f w13 Any Xf hsec).mono ?_
            rintro e w14 ⟨rfl, B14⟩
            have G14 := below_then G13 G13.size B14
            have tq : (((secN LK : Nat) : Int) + ((secN LN : Nat) : Int) == ((secN f : Nat) : Int)) = true := by simp; omega
            go_wp2_with (first | (go_at_call 13; refine (awake_any _).mono ?_; rintro e w99 ⟨rfl, B99⟩))
            go_ret
            exact ⟨rfl, below_then G14 G14.size B99⟩
      · have hz' : (foldI a != 0) = true := by simpa using hF
        go_wp2_with (first | (go_at_call 13; refine (awake_any _).mono ?_; rintro e w99 ⟨rfl, B99⟩))
        go_ret
        exact ⟨rfl, below_then G2 G2.size B99⟩
end Go.Proofs.Ytoifinmcoldidaa
