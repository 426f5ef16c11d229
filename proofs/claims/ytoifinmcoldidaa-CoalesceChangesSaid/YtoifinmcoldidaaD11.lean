import Derived.Test.YtoifinmcoldidaaI9
import Derived.Test.YtoifinmcoldidaaI5
import Derived.Test.YtoifinmcoldidaaIm2
set_option maxRecDepth 100000
set_option linter.unusedVariables false
set_option linter.unusedSimpArgs false
namespace Go.Proofs.Ytoifinmcoldidaa
open Go.RowKit Go.Mm Sb

/-! ### CoalesceChanges -/
set_option maxHeartbeats 8000000 in
theorem changes_any (vi va : Value) (im : List (List Sec)) (a : List Wr) (w : World) (hi : RImg w Any vi im) (ha : RWrs w Any va a) :
    Calls Try.prog 11 #[vi, va] w fun e w' => e = .returned (.bool true) ∧ Below w.heap.size w w' := by
  have G0 : Below w.heap.size w w := Below.refl _ _
  go_enter Try.func11, Try.ntmps11
  go_wp2_with fail
  refine (few07_any vi im w Any hi).mono ?_
  rintro e w1 ⟨q1, rfl, f1, B1⟩
  have G1 := below_then G0 G0.size B1
  cases q1 with
  | false =>
    go_wp2_with (first | (go_at_call 13; refine (awake_any _).mono ?_; rintro e w99 ⟨rfl, B99⟩))
    go_ret
    exact ⟨rfl, below_then G1 G1.size B99⟩
  | true =>
    replace f1 := f1 rfl
    have hl9 : im.length ≤ 100000 := by have := f1.1; omega
    go_wp2_with fail
    refine (few_any va a w1 Any (ha.below G1)).mono ?_
    rintro e w2 ⟨q2, rfl, f2, B2⟩
    have G2 := below_then G1 G1.size B2
    cases q2 with
    | false =>
      go_wp2_with (first | (go_at_call 13; refine (awake_any _).mono ?_; rintro e w99 ⟨rfl, B99⟩))
      go_ret
      exact ⟨rfl, below_then G2 G2.size B99⟩
    | true =>
      replace f2 := f2 rfl
      go_wp2_with fail
      refine (apply_any vi va im a w2 Any Any (hi.below G2) (ha.below G2) hl9).mono ?_
      rintro e w3 ⟨v3, i3, rfl, X3, B3⟩
      have G3 := below_then G2 G2.size B3
      by_cases hE : apE im a = 0
      · obtain ⟨hz, hfit⟩ := apE_zero hE
        have hap : AllPlaced a := fun x hx => fit_placed hz (hfit x hx)
        have hfo : foldI a = 0 := foldI_of_placed hap
        have hfit2 : ∀ x ∈ foldW a, fitW (lens im) x = 0 := fit_canon (foldW_canon a) (foldW_eff hap) hfit
        have hE2 : apE im (foldW a) = 0 := apE_of hz hfit2
        have hR : apR im a = putAll im a := by unfold apR; rw [if_pos hE]
        have hR2 : apR im (foldW a) = putAll im a := by
          unfold apR; rw [if_pos hE2]
          exact put_same hfit2 hfit (foldW_eff hap)
        rw [hE]
        rw [hR] at X3
        replace X3 : RImg w3 Any v3 (putAll im a) := X3.more (fun _ _ _ => trivial)
        have c4 := fold_ok va a w3 Any (ha.below G3) hfo (few_sec f2)
        have hck : refChk (foldW a) (lens im) = 0 := by
          unfold refChk; rw [if_pos hz]
          exact chk_canonF (foldW_canon a) hfit2 (by simp)
        have hfew := fold_fewer hap
        have hsec := few_sec f2
        have hff := fold_fold hap
        have hfo2 : foldI (foldW a) = 0 := foldI_of_placed (foldW_placed hap)
        have HP := Lib.hid (And.intro hck (And.intro hfew (And.intro hsec (And.intro hff (And.intro hfo2 (And.intro hE2 hR2))))))
        clear hz hfit hap hfo hfit2 hE2 hR hR2 hE hck hfew hsec hff hfo2
        go_wp2_with fail
        refine c4.mono ?_
        rintro e w4 ⟨v4, rfl, X4, B4⟩
        have G4 := below_then G3 G3.size B4
        replace X4 : RWrs w4 Any v4 (foldW a) := X4.more (fun _ _ _ => trivial)
        replace X3 := X3.below B4
        go_wp2_with fail
        refine (apply_any vi v4 im (foldW a) w4 Any Any (hi.below G4) X4 hl9).mono ?_
        rintro e w5 ⟨v5, i5, rfl, X5, B5⟩
        have G5 := below_then G4 G4.size B5
        rw [HP.out.2.2.2.2.2.1]
        rw [HP.out.2.2.2.2.2.2] at X5
        replace X5 : RImg w5 Any v5 (putAll im a) := X5.more (fun _ _ _ => trivial)
        replace X3 := X3.below B5
        replace X4 := X4.below B5
        go_wp2_with fail
        refine (imgSame_any v3 v5 _ _ w5 Any X3 X5).mono ?_
        rintro e w6 ⟨rfl, B6⟩
        have G6 := below_then G5 G5.size B6
        replace X4 := X4.below B6
        rw [show decide (putAll im a = putAll im a) = true from decide_eq_true rfl]
        clear X3 X5 c4
        obtain ⟨Ai, ci, rfl, hci, hmi⟩ := hi.val
        unfold maxLen at hmi
        go_wp2
        have hw6 := G6.size
        go_loopw [13, 63] (fun s i wr => ∃ k : Nat, k ≤ im.length ∧ i = .int .i64 k ∧ OwnSl 3 1 RInt wr w6.heap.size (fun _ => False) s ((im.take k).map fun x => (x.length : Int)) ∧ Below w6.heap.size w6 wr) (fun _ i _ => im.length - (intOf i).toNat)
        case atStart => exact ⟨0, Nat.zero_le _, rfl, OwnSl.nil _, Below.refl _ _⟩
        case round =>
          obtain ⟨k, hk, rfl, hown, hb⟩ := hrel
          have hbs := hb.size
          have hb7 := below_then G6 hw6 hb
          by_cases hlt : k < im.length
          · obtain ⟨x, hx⟩ : ∃ x, im[k]? = some x := ⟨_, List.getElem?_eq_getElem hlt⟩
            obtain ⟨b, off, cs, rfl, hbl, _, hll, hcc, dv, rfl, hd⟩ := hi.at_ hx
            obtain ⟨Ad, dcap, rfl, hdc, hdm⟩ := hd.val
            unfold maxLen at hdm
            have c0 := (hb7.cell (p := ⟨b, off + k * 1 + 0, none⟩) hbl).trans (hcc 0 (by omega))
            simp at c0
            clear hcc hll
            have hul := hown.lt
            have htl := take_len (fun x : List Sec => (x.length : Int)) hk
            have HX := Lib.hid hx
            clear hx
            go_wp2_with (first | (at_builtin; refine wpList_appendNew rfl _ _ 38 rfl 3 _ 1 8 Try.underlying38 infoI rfl (by omega) RInt w6.heap.size (fun _ => False) u13 _ rfl hown #[.int .i64 x.length] (x.length : Int) wr.heap.size rfl rfl rfl (by simp [Value.oneCell']) ⟨by unfold In64; omega, rfl⟩ (by rw [htl]; omega) (by omega) (by omega) ?_; intro v5 w5 hO5 hg5 hat5))
            go_roundw
            case rel => exact ⟨k + 1, by omega, by go_num, by rw [map_take (fun x : List Sec => (x.length : Int)) HX.out]; exact hO5, hb.grown hg5 hbs (fun j e => (hul j e).1)⟩
            case measure => simp [intOf]; omega
          · obtain rfl : k = im.length := by omega
            rw [List.take_length] at hown
            have hls : RInts wr Any u13 (lens im) := hown.reads (fun _ _ _ => trivial)
            have X7 := X4.below hb
            clear hown
            have c8 := fold_ok v4 (foldW a) wr Any X7 HP.out.2.2.2.2.1 (Nat.le_trans HP.out.2.1 HP.out.2.2.1)
            rw [HP.out.2.2.2.1] at c8
            go_wp2_with fail
            refine c8.mono ?_
            rintro e w8 ⟨v8, rfl, X8, B8⟩
            have G8 := below_then hb7 hb7.size B8
            replace X8 : RWrs w8 Any v8 (foldW a) := X8.more (fun _ _ _ => trivial)
            replace X7 := X7.below B8
            have ls8 := hls.below B8
            clear c8
            go_wp2_with fail
            refine (chkC_any v4 u13 (foldW a) (lens im) w8 Any Any X7 ls8).mono ?_
            rintro e w9 ⟨rfl, B9⟩
            rw [HP.out.1]
            have G9 := below_then G8 G8.size B9
            replace X8 := X8.below B9
            replace X7 := X7.below B9
            go_wp2_with fail
            refine (sectors_any v4 (foldW a) w9 Any X7 (Nat.le_trans HP.out.2.1 HP.out.2.2.1)).mono ?_
            rintro e w10 ⟨rfl, B10⟩
            have G10 := below_then G9 G9.size B10
            replace X8 := X8.below B10
            replace X7 := X7.below B10
            go_wp2_with fail
            refine (sectors_any va a w10 Any (ha.below G10) HP.out.2.2.1).mono ?_
            rintro e w11 ⟨rfl, B11⟩
            have G11 := below_then G10 G10.size B11
            replace X8 := X8.below B11
            replace X7 := X7.below B11
            have hle : (secN (foldW a) : Int) ≤ (secN a : Int) := by have := HP.out.2.1; omega
            have tle : True := trivial
            have HLE := Lib.hid hle
            clear hle tle
            go_wp2_with fail
            · refine (same22_any v8 v4 _ _ w11 Any X8 X7).mono ?_
              rintro e w12 ⟨rfl, B12⟩
              have G12 := below_then G11 G11.size B12
              rw [show decide (foldW a = foldW a) = true from decide_eq_true rfl]
              go_wp2_with (first | (go_at_call 13; refine (awake_any _).mono ?_; rintro e w99 ⟨rfl, B99⟩))
              go_ret
              exact ⟨rfl, below_then G12 G12.size B99⟩
            · exfalso; have := HLE.out; omega
      · have hE' : (apE im a != 0) = true := by simpa using hE
        go_wp2_with (first | (go_at_call 13; refine (awake_any _).mono ?_; rintro e w99 ⟨rfl, B99⟩))
        go_ret
        exact ⟨rfl, below_then G3 G3.size B99⟩
end Go.Proofs.Ytoifinmcoldidaa
